/- Printed by a program of this session: Go functions as Lean functions over plain data, and that the calls come to them. -/
import Derived.Test.YtpijjenaadkjdaaSyK
import Derived.Test.YtpijjenaadkjdaaChecked
import Derived.KernelRfl
import Derived.Test.YtpijjenaadkjdaaMB0
namespace Go.Proofs.Ytpijjenaadkjdaa.M
open Go Am Sy
open Sy.Cell (rc)
set_option linter.unusedVariables false
set_option linter.unusedSimpArgs false
set_option maxRecDepth 20000

structure correctorlaw10_Act where
  Kind : Int
  A : Int
  B : Int
  C : Int
  D : Int
  deriving DecidableEq, Inhabited
instance : Cell correctorlaw10_Act where
  size := 5
  rc Z cs x := cs = [V x.Kind, V x.A, V x.B, V x.C, V x.D]
  len h := by rw [h]; rfl
  mono _ h := h
  one h := by rw [h]; rfl
  pos := by decide
theorem rc_correctorlaw10_Act {Z : Zn} {cs : List Value} {x : correctorlaw10_Act} (h : rc Z cs x) : cs = [V x.Kind, V x.A, V x.B, V x.C, V x.D] := h
abbrev K32 (x : correctorlaw10_Act) : List Value := [V x.Kind, V x.A, V x.B, V x.C, V x.D]
structure correctorref10_Tree where
  Nodes : List api_Node
  deriving DecidableEq, Inhabited
instance : Cell correctorref10_Tree where
  size := 1
  rc Z cs x := ∃ v0, RS (α := api_Node) Z v0 x.Nodes ∧ cs = [v0]
  len h := by obtain ⟨v0, qv0, h⟩ := h; rw [h]; rfl
  mono hz h := by obtain ⟨v0, qv0, h⟩ := h; exact ⟨v0, qv0.mono hz, h⟩
  one h := by obtain ⟨v0, qv0, h⟩ := h; subst h; exact (one_cons qv0.one1 one_nil)
  pos := by decide
instance : DCell correctorref10_Tree api_Node where
  row x := x.Nodes
  drc v cs x := cs = [v]
  rcd h hd := ⟨_, h, hd⟩
  dlen h := by rw [h]; rfl
  done hv h := by subst h; exact (one_cons hv one_nil)
  inj h k := by rw [h] at k; simpa using k
  fn h k := h.trans k.symm
theorem drc_correctorref10_Tree {v : Value} {cs : List Value} {x : correctorref10_Tree} (h : DCell.drc v cs x) : cs = [v] := h
theorem rc_correctorref10_Tree {Z : Zn} {cs : List Value} {x : correctorref10_Tree} (h : rc Z cs x) : ∃ v0, RS (α := api_Node) Z v0 x.Nodes ∧ cs = [v0] := h
abbrev K29 (v0 : Value) (x : correctorref10_Tree) : List Value := [v0]

def r19_0 : List COp := [u 2 (.assign (.const (.bool false)))]
def r19_1 : List COp := [u 3 (.assign (ci 0))]
def r19_2 : List COp := [u 4 (.move (t 3)), u 5 (.move (t 0)), u 6 (cb .len #[(t 5)] #[25]), u 7 (.binOp .lss 3 (t 4) (t 6) 3)]
def r19_3 : List COp := [u 8 (.move (t 3)), u 9 (.binOp .add 3 (t 8) (ci 1) 3), u 3 (.assign (t 9))]
def r19_4 : List COp := [u 10 (.move (t 0)), u 11 (.move (t 3)), u 12 (.indexAddr 25 (t 10) (t 11)), u 13 (.fieldAddr 46 (t 12) 4), u 14 (.load 44 (t 13)), u 15 (cb .len #[(t 14)] #[44]), u 16 (.binOp .gtr 3 (t 15) (ci 20) 3)]
def r19_5 : List COp := [u 2 (.assign (.const (.bool false)))]
def r19_6 : List COp := [u 17 (.move (t 0)), u 18 (cb .len #[(t 17)] #[25]), u 19 (.binOp .leq 3 (t 18) (ci 20) 3), u 2 (.assign (t 19))]
def correctorlaw10_Few_l0 (F : Nat) (a0 : List api_Node) : Nat → Int → Option (Sum Unit Bool)
  | 0, _ => none
  | n + 1, x6900 =>
    if x6900 < (a0.length : Int) then
      if 0 ≤ x6900 ∧ x6900 < (a0.length : Int) then
        (a0[x6900.toNat]?).bind fun x6918 =>
        if (20 : Int) < (x6918.Kids.length : Int) then
          some (.inr false)
        else
          correctorlaw10_Few_l0 F a0 n (w64 (x6900 + 1))
      else none
    else
      some (.inl ())
def correctorlaw10_Few (F : Nat) (a0 : List api_Node) : Option Bool :=
  ((correctorlaw10_Few_l0 F a0 F 0) : Option (Sum Unit Bool)).bind fun o => match o with
    | .inl () => if (a0.length : Int) ≤ (20 : Int) then
      some true
    else
      some false
    | .inr y => some y
theorem correctorlaw10_Few_ok (F : Nat) {h : AH} {Z : Zn} {a0 : List api_Node} {v6674 : Value} (hI : Inv Z h) (q6673 : RS (α := api_Node) Z v6674 a0) {r : Bool} (hm : correctorlaw10_Few F a0 = some r) :
    ∃ v h', callI Go.Proofs.Try.prog 19 [v6674] h = some (v, h') ∧ St h [] Z (0, 0) Z h' [] ∧ v = .bool r := by
  refine fn_plain (Q := fun v => v = .bool r) Go.Proofs.Try.func19 rfl rfl hI ?_
  intro hs hS
  unfold correctorlaw10_Few at hm
  refine sr r19_0 ?_
  refine xe 1 [(0, v6674)] ?_
  refine sq ?_
  refine sr r19_1 ?_
  refine xe 1 [(3, V 0), (0, v6674)] ?_
  obtain ⟨o6898, ho6897, hm⟩ := obind hm
  refine W_join [0] (fun l h => ∃ Z6927 : Zn, .inl () = o6898 ∧ l = [(0, v6674)] ∧ St hs [] Z (0, 0) Z6927 h []) ?_ ?_
  rintro l h6928 ⟨Z6927, rfl, rfl, hS6929⟩
  try dsimp only at hm
  refine sr r19_6 ?_
  refine xq 1 [(17, v6674)] ?_
  refine r_step rfl trivial (o_len rfl (RS.len (q6673.mono hS6929.zle)) ⟨_, Go.Proofs.Try.underlying25⟩) ?_
  rcases ifs hm with ⟨hp6930, hm⟩ | ⟨hp6930, hm⟩
  refine r_step rfl trivial (o_cmp rfl rfl (c_leq_T hp6930)) ?_
  refine xe 1 [(2, .bool true)] ?_
  refine rt ?_
  refine ⟨rfl, ?_⟩
  obtain rfl := Option.some.inj hm
  refine ⟨_, _, _, ResL.tmp rfl (ResL.nil), hS6929, ?_⟩
  exact rfl
  refine r_step rfl trivial (o_cmp rfl rfl (c_leq_F hp6930)) ?_
  refine xe 1 [(2, .bool false)] ?_
  refine rt ?_
  refine ⟨rfl, ?_⟩
  obtain rfl := Option.some.inj hm
  refine ⟨_, _, _, ResL.tmp rfl (ResL.nil), hS6929, ?_⟩
  exact rfl
  refine bk 0 ?_
  refine lp [0, 3] (fun n l h => ∃ Z6899 : Zn, ∃ x6900 : Int, correctorlaw10_Few_l0 F a0 n x6900 = some o6898 ∧ l = [(0, v6674), (3, V x6900)] ∧ St hs [] Z (0, 0) Z6899 h []) F ⟨_, 0, ho6897, rfl, hS⟩ ?_
  rintro n6903 l h6901 ⟨Z6899, x6900, ho6897, rfl, hS6902⟩
  rcases n6903 with _ | n6903
  cases (show none = some o6898 from ho6897)
  rw [correctorlaw10_Few_l0] at ho6897
  refine sq ?_
  refine sr r19_2 ?_
  refine xq 2 [(5, v6674), (4, V x6900), (0, v6674), (3, V x6900)] ?_
  refine r_step rfl trivial (o_len rfl (RS.len (q6673.mono hS6902.zle)) ⟨_, Go.Proofs.Try.underlying25⟩) ?_
  rcases ifs ho6897 with ⟨hp6906, ho6897⟩ | ⟨hp6906, ho6897⟩
  refine r_step rfl trivial (o_cmp rfl rfl (c_lss_T hp6906)) ?_
  refine xf [(7, .bool true), (0, v6674), (3, V x6900)] ?_
  refine kT 7 rfl ?_
  refine sq ?_
  refine bk 1 ?_
  refine sr r19_4 ?_
  refine xq 2 [(11, V x6900), (10, v6674), (0, v6674), (3, V x6900)] ?_
  obtain ⟨hc6917, ho6897⟩ := chk ho6897
  refine r_step rfl trivial (o_index rfl rfl (by kernel_rfl : slTy _ _ = some (csz api_Node)) (RS.based (q6673.mono hS6902.zle) (by omega)) hc6917.1 hc6917.2) ?_
  refine xq 1 [(13, .pointer (some (elemA v6674 x6900 (csz api_Node) 4))), (0, v6674), (3, V x6900)] ?_
  obtain ⟨x6918, hx6919, ho6897⟩ := obind ho6897
  obtain ⟨cs6920, hc6921, he6922⟩ := RS.elz (q6673.mono hS6902.zle) (i := x6900) hx6919
  obtain ⟨v6924, q6925, rfl⟩ := rc_api_Node hc6921
  refine r_step rfl trivial (o_lde (w := v6924) (he6922 _ (hS6902.zin0 (Zle.refl _))) rfl (by kernel_rfl)) ?_
  refine r_step rfl trivial (o_len rfl (RS.len q6925) ⟨_, Go.Proofs.Try.underlying44⟩) ?_
  rcases ifs ho6897 with ⟨hp6926, ho6897⟩ | ⟨hp6926, ho6897⟩
  refine r_step rfl trivial (o_cmp rfl rfl (c_gtr_T hp6926)) ?_
  refine xf [(16, .bool true), (0, v6674), (3, V x6900)] ?_
  refine cT 16 rfl ?_
  refine sr r19_5 ?_
  refine xe 1 [(2, .bool false)] ?_
  refine rt ?_
  refine blkX_ret ?_
  refine blkX_ret ?_
  refine ⟨rfl, ?_⟩
  obtain rfl := Option.some.inj ho6897
  obtain rfl := Option.some.inj hm
  refine ⟨_, _, _, ResL.tmp rfl (ResL.nil), hS6902, ?_⟩
  exact rfl
  refine r_step rfl trivial (o_cmp rfl rfl (c_gtr_F hp6926)) ?_
  refine xf [(16, .bool false), (0, v6674), (3, V x6900)] ?_
  refine kF 16 rfl ?_
  refine rg r19_3 ?_
  refine xe 3 [(3, V (w64 (x6900 + 1))), (0, v6674)] ?_
  exact ⟨n6903, Nat.lt_succ_self _, ⟨_, w64 (x6900 + 1), ho6897, rfl, hS6902⟩⟩
  refine r_step rfl trivial (o_cmp rfl rfl (c_lss_F hp6906)) ?_
  refine xf [(7, .bool false), (0, v6674), (3, V x6900)] ?_
  refine cF 7 rfl ?_
  refine xt 0 ?_
  refine blkX_hit ?_
  obtain rfl := Option.some.inj ho6897
  exact ⟨_, rfl, rfl, hS6902⟩

def r11_0 : List COp := [u 2 (.alloc 29)]
def r11_1 : List COp := [u 3 (.move (t 0)), u 4 (.binOp .lss 3 (t 3) (ci 0) 3), u 5 (.move (t 4)), gN 5 (some 6) (.move (t 0)), gN 5 (some 7) (.binOp .gtr 3 (t 6) (ci 32768) 3), u 8 (.pick (t 5) (.const (.bool true)) (t 7))]
def r11_2 : List COp := [u 0 (.assign (ci 0))]
def r11_3 : List COp := [u 9 (.move (t 0)), u 10 (.build 46 #[(0, (ci 1)), (2, (t 9)), (3, (ci (-1)))]), u 11 (.buildSlice 25 1 #[(0, (t 10))]), u 12 (.build 29 #[(0, (t 11))]), o (.store 29 (t 2) (t 12))]
def correctorref10_New (F : Nat) (a0 : Int) : Option correctorref10_Tree :=
  ((if a0 < (0 : Int) then
      some 0
    else
      if (32768 : Int) < a0 then
        some 0
      else
        some a0) : Option Int).bind fun o => match o with
    | x6992 => some (⟨[(⟨1, 0, x6992, (-1), [], false⟩ : api_Node)]⟩ : correctorref10_Tree)
theorem correctorref10_New_ok (F : Nat) {h : AH} {Z : Zn} {a0 : Int} (hP : Pre Z h []) {r : correctorref10_Tree} (hm : correctorref10_New F a0 = some r) :
    ∃ v h' Z' A', callI Go.Proofs.Try.prog 11 [V a0] h = some (v, h') ∧ St h (idsL []) Z (0, 0) Z' h' A' ∧ ∃ v6980 : Value, ∃ c6981 : List Value, .agg #[v6980] = v ∧ A' = [.gs v6980 c6981 (csz api_Node)] ∧ RCs (α := api_Node) Z' c6981 r.Nodes := by
  refine fn_intro (A := []) (Q := fun v Z' A' => ∃ v6980 : Value, ∃ c6981 : List Value, .agg #[v6980] = v ∧ A' = [.gs v6980 c6981 (csz api_Node)] ∧ RCs (α := api_Node) Z' c6981 r.Nodes) Go.Proofs.Try.func11 rfl rfl (by kernel_rfl) hP ?_
  intro hs hS
  unfold correctorref10_New at hm
  replace hS : St hs [] Z (0, 0) Z hs [] := hS
  refine sr r11_0 ?_
  refine r_blk rfl trivial (o_alloc (cs := [.slice none 0 0]) (by kernel_rfl)) hS ?_
  intro b6982 h6983 hS6984
  refine xf [(2, Pt b6982 0), (0, V a0)] ?_
  refine sq ?_
  obtain ⟨o6988, ho6987, hm⟩ := obind hm
  refine W_seqJoin0 [0, 2] (fun l h => ∃ Z6991 : Zn, ∃ x6992 : Int, ∃ b6993 : Nat, x6992 = o6988 ∧ l = [(0, V x6992), (2, Pt b6993 0)] ∧ St hs [] Z (0, 0) Z6991 h [.blk b6993 [.slice none 0 0]]) (by kernel_rfl) ?_ ?_
  rintro l h6994 ⟨Z6991, x6992, b6993, rfl, rfl, hS6995⟩
  try dsimp only at hm
  refine sr r11_3 ?_
  refine xq 2 [(10, .agg #[V 1, V 0, V x6992, V (-1), .slice none 0 0, .bool false]), (2, Pt b6993 0)] ?_
  have q6999 : RCs (α := api_Node) Z6991 [V 1, V 0, V x6992, V (-1), .slice none 0 0, .bool false] [(⟨1, 0, x6992, (-1), [], false⟩ : api_Node)] := RCs.cons (cs := [V 1, V 0, V x6992, V (-1), .slice none 0 0, .bool false]) ⟨_, (RS.nil0 _), rfl⟩ (RCs.nil0 _)
  refine r_row rfl trivial (o_bs (cells := [V 1, V 0, V x6992, V (-1), .slice none 0 0, .bool false]) (s := 6) (by kernel_rfl)) (by kernel_rfl) hS6995 ?_
  intro v6996 h6997 hS6998
  replace hS6998 : St _ _ _ _ _ _ [.gs v6996 [V 1, V 0, V x6992, V (-1), .slice none 0 0, .bool false] (csz api_Node), .blk b6993 [.slice none 0 0]] := hS6998
  refine r_step rfl trivial (o_build (v := .agg #[v6996]) rfl (CA.cons (cs := [v6996]) (hS6998.gcell1 (i := 0) rfl) (CA.nil0)) (by kernel_rfl)) ?_
  refine r_ex1 rfl trivial (o_stb (vs := [v6996]) (cells' := [v6996]) (L' := [.gs v6996 [V 1, V 0, V x6992, V (-1), .slice none 0 0, .bool false] (csz api_Node), .blk b6993 [v6996]]) hS6998 (i := 1) rfl rfl rfl rfl (by kernel_rfl) (one_cons (hS6998.gone1 (i := 0) rfl) one_nil) rfl rfl rfl) ?_
  intro h7001 hS7002
  refine xf [(2, Pt b6993 0)] ?_
  refine rt ?_
  refine ⟨rfl, ?_⟩
  obtain rfl := Option.some.inj hm
  refine ⟨_, _, _, ResL.cell (v := .agg #[v6996]) rfl hS7002 (i := 1) rfl (by kernel_rfl) (ResL.nil), (hS7002.takeN 1), ?_⟩
  exact ⟨v6996, [V 1, V 0, V x6992, V (-1), .slice none 0 0, .bool false], rfl, rfl, q6999⟩
  refine rg r11_1 ?_
  refine xq 1 [(3, V a0), (2, Pt b6982 0), (0, V a0)] ?_
  rcases ifs ho6987 with ⟨hp6989, ho6987⟩ | ⟨hp6989, ho6987⟩
  refine r_step rfl trivial (o_cmp rfl rfl (c_lss_T hp6989)) ?_
  refine xe 4 [(8, .bool true), (2, Pt b6982 0), (0, V a0)] ?_
  refine cT 8 rfl ?_
  refine rg r11_2 ?_
  refine xe 1 [(0, V 0), (2, Pt b6982 0)] ?_
  obtain rfl := Option.some.inj ho6987
  exact ⟨_, 0, b6982, rfl, rfl, hS6984⟩
  refine r_step rfl trivial (o_cmp rfl rfl (c_lss_F hp6989)) ?_
  refine xq 2 [(6, V a0), (5, .bool false), (2, Pt b6982 0), (0, V a0)] ?_
  rcases ifs ho6987 with ⟨hp6990, ho6987⟩ | ⟨hp6990, ho6987⟩
  refine r_step rfl rfl (o_cmp rfl rfl (c_gtr_T hp6990)) ?_
  refine xe 1 [(8, .bool true), (2, Pt b6982 0), (0, V a0)] ?_
  refine cT 8 rfl ?_
  refine rg r11_2 ?_
  refine xe 1 [(0, V 0), (2, Pt b6982 0)] ?_
  obtain rfl := Option.some.inj ho6987
  exact ⟨_, 0, b6982, rfl, rfl, hS6984⟩
  refine r_step rfl rfl (o_cmp rfl rfl (c_gtr_F hp6990)) ?_
  refine xe 1 [(8, .bool false), (2, Pt b6982 0), (0, V a0)] ?_
  refine kF 8 rfl ?_
  obtain rfl := Option.some.inj ho6987
  exact ⟨_, a0, b6982, rfl, rfl, hS6984⟩

def r23_0 : List COp := [u 1 (.box 29 (t 0)), u 2 (.assign (.const (.slice none 0 0)))]
def r23_1 : List COp := [u 3 (.assign (.const (.slice none 0 0)))]
def r23_2 : List COp := [u 4 (.assign (ci 0))]
def r23_3 : List COp := [u 6 (.move (t 4)), u 7 (.fieldAddr 29 (t 1) 0), u 8 (.load 25 (t 7)), u 9 (cb .len #[(t 8)] #[25]), u 10 (.binOp .lss 3 (t 6) (t 9) 3)]
def r23_4 : List COp := [u 11 (.move (t 4)), u 12 (.binOp .add 3 (t 11) (ci 1) 3), u 4 (.assign (t 12))]
def r23_5 : List COp := [u 13 (.fieldAddr 29 (t 1) 0), u 14 (.load 25 (t 13)), u 15 (.move (t 4)), u 16 (.indexAddr 25 (t 14) (t 15)), u 17 (.load 46 (t 16)), u 5 (.alloc 46), o (.store 46 (t 5) (t 17))]
def r23_6 : List COp := [u 18 (.buildSlice 44 0 #[]), u 19 (.fieldAddr 46 (t 5) 4), u 20 (.load 44 (t 19)), u 21 (cb .append #[(t 18), (t 20)] #[44, 44]), u 22 (.fieldAddr 46 (t 5) 4), o (.store 44 (t 22) (t 21))]
def r23_7 : List COp := [u 23 (.move (t 3)), u 24 (.load 46 (t 5)), u 25 (.buildSlice 25 1 #[(0, (t 24))]), u 26 (cb .append #[(t 23), (t 25)] #[25, 25]), u 3 (.assign (t 26))]
def r23_8 : List COp := [u 27 (.move (t 3)), u 2 (.assign (t 27))]
def correctorref10_copied_l0 (F : Nat) (a0 : correctorref10_Tree) : Nat → (List api_Node) → Int → Option (List api_Node)
  | 0, _, _ => none
  | n + 1, x7531, x7536 =>
    if x7536 < (a0.Nodes.length : Int) then
      if 0 ≤ x7536 ∧ x7536 < (a0.Nodes.length : Int) then
        (a0.Nodes[x7536.toNat]?).bind fun x7544 =>
        if ([] : List Int).length + x7544.Kids.length ≤ 17592186044416 then
          if x7531.length + [(⟨x7544.Kind, x7544.From, x7544.To, x7544.Up, ([] : List Int) ++ x7544.Kids, x7544.Key⟩ : api_Node)].length ≤ 2199023255552 then
            correctorref10_copied_l0 F a0 n (x7531 ++ [(⟨x7544.Kind, x7544.From, x7544.To, x7544.Up, ([] : List Int) ++ x7544.Kids, x7544.Key⟩ : api_Node)]) (w64 (x7536 + 1))
          else none
        else none
      else none
    else
      some x7531
def correctorref10_copied (F : Nat) (a0 : correctorref10_Tree) : Option (List api_Node) :=
  ((correctorref10_copied_l0 F a0 F [] 0) : Option (List api_Node)).bind fun o => match o with
    | x7597 => some x7597
theorem correctorref10_copied_ok (F : Nat) {h : AH} {Z : Zn} {a0 : correctorref10_Tree} {v7267 : Value} (hP : Pre Z h []) (q7266 : RS (α := api_Node) Z v7267 a0.Nodes) {r : (List api_Node)} (hm : correctorref10_copied F a0 = some r) :
    ∃ v h' Z' A', callI Go.Proofs.Try.prog 23 [.agg #[v7267]] h = some (v, h') ∧ St h (idsL []) Z (0, 0) Z' h' A' ∧ ∃ v7399 : Value, ∃ c7400 : List Value, ∃ ks7401 : List Bk, v7399 = v ∧ A' = [.gs v7399 c7400 (csz api_Node), .grp ks7401] ∧ RD (α := api_Node) Z' c7400 r ks7401 := by
  refine fn_intro (A := []) (Q := fun v Z' A' => ∃ v7399 : Value, ∃ c7400 : List Value, ∃ ks7401 : List Bk, v7399 = v ∧ A' = [.gs v7399 c7400 (csz api_Node), .grp ks7401] ∧ RD (α := api_Node) Z' c7400 r ks7401) Go.Proofs.Try.func23 rfl rfl (by kernel_rfl) hP ?_
  intro hs hS
  unfold correctorref10_copied at hm
  replace hS : St hs [] Z (0, 0) Z hs [] := hS
  refine sr r23_0 ?_
  refine r_blk rfl trivial (o_box (cs := [v7267]) rfl rfl) hS ?_
  intro b7402 h7403 hS7404
  refine xe 1 [(1, Pt b7402 0)] ?_
  refine sr r23_1 ?_
  refine xe 1 [(3, .slice none 0 0), (1, Pt b7402 0)] ?_
  refine sq ?_
  refine sr r23_2 ?_
  refine xe 1 [(4, V 0), (3, .slice none 0 0), (1, Pt b7402 0)] ?_
  obtain ⟨o7525, ho7524, hm⟩ := obind hm
  refine W_join [3] (fun l h => ∃ Z7596 : Zn, ∃ x7597 : List api_Node, ∃ v7599 : Value, ∃ c7600 : List Value, ∃ ks7601 : List Bk, x7597 = o7525 ∧ RD (α := api_Node) Z7596 c7600 x7597 ks7601 ∧ l = [(3, v7599)] ∧ St hs [] Z (0, 0) Z7596 h [.gs v7599 c7600 (csz api_Node), .grp ks7601]) ?_ ?_
  rintro l h7602 ⟨Z7596, x7597, v7599, c7600, ks7601, rfl, q7598, rfl, hS7603⟩
  try dsimp only at hm
  refine sr r23_8 ?_
  refine xe 2 [(2, v7599)] ?_
  refine rt ?_
  refine ⟨rfl, ?_⟩
  obtain rfl := Option.some.inj hm
  refine ⟨_, _, _, ResL.tmp rfl (ResL.nil), hS7603, ?_⟩
  exact ⟨v7599, c7600, ks7601, rfl, rfl, q7598⟩
  refine bk 0 ?_
  have hS7526 := hS7404.dnil (csz api_Node)
  refine lp [1, 3, 4] (fun n l h => ∃ Z7529 : Zn, ∃ x7531 : List api_Node, ∃ x7536 : Int, ∃ b7530 : Nat, ∃ v7533 : Value, ∃ c7534 : List Value, ∃ ks7535 : List Bk, correctorref10_copied_l0 F a0 n x7531 x7536 = some o7525 ∧ RD (α := api_Node) Z7529 c7534 x7531 ks7535 ∧ l = [(1, Pt b7530 0), (3, v7533), (4, V x7536)] ∧ St hs [] Z (0, 0) Z7529 h [.blk b7530 [v7267], .gs v7533 c7534 (csz api_Node), .grp ks7535]) F ⟨_, [], 0, b7402, (.slice none 0 0), [], [], ho7524, RD.nil, rfl, (((hS7526.front 1 rfl).front 1 rfl).front 2 rfl)⟩ ?_
  rintro n7539 l h7537 ⟨Z7529, x7531, x7536, b7530, v7533, c7534, ks7535, ho7524, q7532, rfl, hS7538⟩
  rcases n7539 with _ | n7539
  cases (show none = some o7525 from ho7524)
  rw [correctorref10_copied_l0] at ho7524
  refine sq ?_
  refine sr r23_3 ?_
  refine xq 2 [(7, Pt b7530 0), (6, V x7536), (1, Pt b7530 0), (3, v7533), (4, V x7536)] ?_
  refine r_step rfl trivial (o_ldb (v := v7267) hS7538 (i := 0) rfl rfl (by kernel_rfl)) ?_
  refine r_step rfl trivial (o_len rfl (RS.len (q7266.mono hS7538.zle)) ⟨_, Go.Proofs.Try.underlying25⟩) ?_
  rcases ifs ho7524 with ⟨hp7542, ho7524⟩ | ⟨hp7542, ho7524⟩
  refine r_step rfl trivial (o_cmp rfl rfl (c_lss_T hp7542)) ?_
  refine xf [(10, .bool true), (1, Pt b7530 0), (3, v7533), (4, V x7536)] ?_
  refine kT 10 rfl ?_
  refine sq ?_
  refine bk 1 ?_
  refine sr r23_5 ?_
  refine xq 1 [(13, Pt b7530 0), (1, Pt b7530 0), (3, v7533), (4, V x7536)] ?_
  refine r_step rfl trivial (o_ldb (v := v7267) hS7538 (i := 0) rfl rfl (by kernel_rfl)) ?_
  refine xq 1 [(15, V x7536), (14, v7267), (1, Pt b7530 0), (3, v7533), (4, V x7536)] ?_
  obtain ⟨hc7543, ho7524⟩ := chk ho7524
  refine r_step rfl trivial (o_index rfl rfl (by kernel_rfl : slTy _ _ = some (csz api_Node)) (RS.based (q7266.mono hS7538.zle) (by omega)) hc7543.1 hc7543.2) ?_
  obtain ⟨x7544, hx7545, ho7524⟩ := obind ho7524
  obtain ⟨cs7546, hc7547, he7548⟩ := RS.elz (q7266.mono hS7538.zle) (i := x7536) hx7545
  obtain ⟨v7550, q7551, rfl⟩ := rc_api_Node hc7547
  refine r_step rfl trivial (o_lde (w := .agg #[V x7544.Kind, V x7544.From, V x7544.To, V x7544.Up, v7550, .bool x7544.Key]) (he7548 _ (hS7538.zin0 (Zle.refl _))) rfl (by kernel_rfl)) ?_
  refine r_blk rfl trivial (o_alloc (cs := [V 0, V 0, V 0, V 0, .slice none 0 0, .bool false]) (by kernel_rfl)) hS7538 ?_
  intro b7552 h7553 hS7554
  refine r_ex1 rfl trivial (o_stb (vs := [V x7544.Kind, V x7544.From, V x7544.To, V x7544.Up, v7550, .bool x7544.Key]) (cells' := (K46 v7550 x7544)) (L' := [.blk b7552 (K46 v7550 x7544), .blk b7530 [v7267], .gs v7533 c7534 (csz api_Node), .grp ks7535]) hS7554 (i := 0) rfl rfl rfl rfl (by kernel_rfl) (one_cons rfl (one_cons rfl (one_cons rfl (one_cons rfl (one_cons (RS.one1 q7551) (one_cons rfl one_nil)))))) rfl rfl rfl) ?_
  intro h7555 hS7556
  refine xf [(5, Pt b7552 0), (1, Pt b7530 0), (3, v7533), (4, V x7536)] ?_
  refine sr r23_6 ?_
  have q7560 : RCs (α := Int) Z7529 [] [] := RCs.nil0 _
  refine r_row rfl trivial (o_bs (cells := []) (s := 1) (by kernel_rfl)) (by kernel_rfl) hS7556 ?_
  intro v7557 h7558 hS7559
  replace hS7559 : St _ _ _ _ _ _ [.gs v7557 [] (csz Int), .blk b7552 (K46 v7550 x7544), .blk b7530 [v7267], .gs v7533 c7534 (csz api_Node), .grp ks7535] := hS7559
  refine xq 1 [(19, Pt b7552 4), (18, v7557), (5, Pt b7552 0), (1, Pt b7530 0), (3, v7533), (4, V x7536)] ?_
  refine r_step rfl trivial (o_ldb (v := v7550) hS7559 (i := 1) rfl rfl (by kernel_rfl)) ?_
  obtain ⟨c7563, nw7562⟩ := RS.news q7551 (hS7559).inv
  obtain ⟨hc7569, ho7524⟩ := chk ho7524
  refine r_ex3 rfl trivial (o_app (ys := x7544.Kids) (by_ := 8) hS7559 (i := 0) rfl q7560 nw7562 rfl rfl (by kernel_rfl) (by omega) (by omega)) ?_
  rintro v7564 c7565 h7566 ⟨q7568, hS7567⟩
  replace hS7567 : St _ _ _ _ _ _ [.gs v7564 c7565 (csz Int), .blk b7552 (K46 v7550 x7544), .blk b7530 [v7267], .gs v7533 c7534 (csz api_Node), .grp ks7535] := hS7567
  refine xq 1 [(22, Pt b7552 4), (21, v7564), (5, Pt b7552 0), (1, Pt b7530 0), (3, v7533), (4, V x7536)] ?_
  refine r_ex1 rfl trivial (o_stb (vs := [v7564]) (cells' := (K46 v7564 x7544)) (L' := [.gs v7564 c7565 (csz Int), .blk b7552 (K46 v7564 x7544), .blk b7530 [v7267], .gs v7533 c7534 (csz api_Node), .grp ks7535]) hS7567 (i := 1) rfl rfl rfl (hS7567.gcell1 (i := 0) rfl) (by kernel_rfl) (one_cons (hS7567.gone1 (i := 0) rfl) one_nil) rfl rfl rfl) ?_
  intro h7570 hS7571
  refine xf [(5, Pt b7552 0), (1, Pt b7530 0), (3, v7533), (4, V x7536)] ?_
  refine rg r23_7 ?_
  refine xq 1 [(23, v7533), (5, Pt b7552 0), (1, Pt b7530 0), (3, v7533), (4, V x7536)] ?_
  refine r_step rfl trivial (o_ldb (v := .agg #[V x7544.Kind, V x7544.From, V x7544.To, V x7544.Up, v7564, .bool x7544.Key]) hS7571 (i := 1) rfl rfl (by kernel_rfl)) ?_
  have ho7581 := hS7571.gone1 (i := 0) rfl
  refine r_row rfl trivial (o_bs (cells := [V x7544.Kind, V x7544.From, V x7544.To, V x7544.Up, v7564, .bool x7544.Key]) (s := 6) (by kernel_rfl)) (by kernel_rfl) hS7571 ?_
  intro v7572 h7573 hS7574
  obtain ⟨ks7577, hO7582, hS7578⟩ := (hS7574.front 1 rfl).toGrp q7568
  have hS7579 := hS7578.front 1 rfl
  have q7575 : RD (α := api_Node) Z7529 [V x7544.Kind, V x7544.From, V x7544.To, V x7544.Up, v7564, .bool x7544.Key] [(⟨x7544.Kind, x7544.From, x7544.To, x7544.Up, ([] : List Int) ++ x7544.Kids, x7544.Key⟩ : api_Node)] ks7577 := RD.one (show DCell.drc _ _ _ from rfl) ho7581 hO7582
  have hS7580 : St _ _ _ _ _ _ [.gs v7572 [V x7544.Kind, V x7544.From, V x7544.To, V x7544.Up, v7564, .bool x7544.Key] (csz api_Node), .grp ks7577, .blk b7552 (K46 v7564 x7544), .blk b7530 [v7267], .gs v7533 c7534 (csz api_Node), .grp ks7535] := hS7579
  obtain ⟨hc7583, ho7524⟩ := chk ho7524
  have hF7584 : St _ _ _ _ _ _ [.gs v7533 c7534 (csz api_Node), .grp ks7535, .gs v7572 [V x7544.Kind, V x7544.From, V x7544.To, V x7544.Up, v7564, .bool x7544.Key] (csz api_Node), .grp ks7577, .blk b7552 (K46 v7564 x7544), .blk b7530 [v7267]] := ((((hS7580.front 1 rfl).front 1 rfl).front 5 rfl).front 5 rfl)
  refine r_ex3 rfl trivial (o_appD (by_ := 64) hF7584 q7532 q7575 rfl rfl (by kernel_rfl) (by omega) (by omega)) ?_
  rintro v7585 c7586 h7587 ⟨q7589, hS7588⟩
  replace hS7588 : St _ _ _ _ _ _ [.gs v7585 c7586 (csz api_Node), .grp (ks7535 ++ ks7577), .blk b7552 (K46 v7564 x7544), .blk b7530 [v7267]] := hS7588
  refine xe 1 [(3, v7585), (1, Pt b7530 0), (4, V x7536)] ?_
  refine rg r23_4 ?_
  refine xe 3 [(4, V (w64 (x7536 + 1))), (3, v7585), (1, Pt b7530 0)] ?_
  exact ⟨n7539, Nat.lt_succ_self _, ⟨_, x7531 ++ [(⟨x7544.Kind, x7544.From, x7544.To, x7544.Up, ([] : List Int) ++ x7544.Kids, x7544.Key⟩ : api_Node)], w64 (x7536 + 1), b7530, v7585, c7586, ks7535 ++ ks7577, ho7524, q7589, rfl, ((((hS7588.front 1 rfl).front 1 rfl).front 3 rfl).takeN 3)⟩⟩
  refine r_step rfl trivial (o_cmp rfl rfl (c_lss_F hp7542)) ?_
  refine xf [(10, .bool false), (1, Pt b7530 0), (3, v7533), (4, V x7536)] ?_
  refine cF 10 rfl ?_
  refine xt 0 ?_
  refine blkX_hit ?_
  obtain rfl := Option.some.inj ho7524
  exact ⟨_, x7531, v7533, c7534, ks7535, rfl, q7532, rfl, (((hS7538.front 2 rfl).front 2 rfl).takeN 2)⟩

def r24_0 : List COp := [u 7 (.move (t 1)), u 6 (.assign (t 7))]
def r24_1 : List COp := [u 8 (.move (t 6)), u 9 (.binOp .geq 3 (t 8) (ci 0) 3)]
def r24_2 : List COp := [u 10 (.move (t 0)), u 11 (.move (t 6)), u 12 (.indexAddr 25 (t 10) (t 11)), u 13 (.fieldAddr 46 (t 12) 3), u 14 (.load 3 (t 13)), u 6 (.assign (t 14))]
def r24_3 : List COp := [u 15 (.move (t 0)), u 16 (.move (t 6)), u 17 (.move (t 0)), u 18 (.move (t 6)), u 19 (.indexAddr 25 (t 17) (t 18)), u 20 (.fieldAddr 46 (t 19) 2), u 21 (.load 3 (t 20)), u 22 (.move (t 2)), u 23 (cb .max #[(t 21), (t 22)] #[3, 3]), u 24 (.indexAddr 25 (t 15) (t 16)), u 25 (.fieldAddr 46 (t 24) 2), o (.store 3 (t 25) (t 23))]
def correctorref10_reach_l0 (F : Nat) (a0 : List api_Node) (a1 : Int) (a2 : Int) : Nat → (List api_Node) → Int → Option (List api_Node)
  | 0, _, _ => none
  | n + 1, x7861, x7865 =>
    if (0 : Int) ≤ x7865 then
      if 0 ≤ x7865 ∧ x7865 < (x7861.length : Int) then
        (x7861[x7865.toNat]?).bind fun x7873 =>
        if 0 ≤ x7865 ∧ x7865 < (x7861.length : Int) then
          (x7861[x7865.toNat]?).bind fun x7883 =>
          if 0 ≤ x7865 ∧ x7865 < ((x7861.set x7865.toNat (⟨x7883.Kind, x7883.From, imax x7873.To a2, x7883.Up, x7883.Kids, x7883.Key⟩ : api_Node)).length : Int) then
            ((x7861.set x7865.toNat (⟨x7883.Kind, x7883.From, imax x7873.To a2, x7883.Up, x7883.Kids, x7883.Key⟩ : api_Node))[x7865.toNat]?).bind fun x7897 =>
            correctorref10_reach_l0 F a0 a1 a2 n (x7861.set x7865.toNat (⟨x7883.Kind, x7883.From, imax x7873.To a2, x7883.Up, x7883.Kids, x7883.Key⟩ : api_Node)) x7897.Up
          else none
        else none
      else none
    else
      some x7861
def correctorref10_reach (F : Nat) (a0 : List api_Node) (a1 : Int) (a2 : Int) : Option (List api_Node) :=
  ((correctorref10_reach_l0 F a0 a1 a2 F a0 a1) : Option (List api_Node)).bind fun o => match o with
    | x7911 => some x7911
theorem correctorref10_reach_ok (F : Nat) {h : AH} {Z : Zn} {a0 : List api_Node} {a1 : Int} {a2 : Int} {v7675 : Value} {c7676 : List Value} {ks7677 : List Bk} (hP : Pre Z h [.gs v7675 c7676 (csz api_Node), .grp ks7677]) (q7674 : RD (α := api_Node) Z c7676 a0 ks7677) {r : (List api_Node)} (hm : correctorref10_reach F a0 a1 a2 = some r) :
    ∃ v h' Z' A', callI Go.Proofs.Try.prog 24 [v7675, V a1, V a2] h = some (v, h') ∧ St h (idsL [.gs v7675 c7676 (csz api_Node), .grp ks7677]) Z (0, 0) Z' h' A' ∧ ∃ c7771 : List Value, ∃ ks7772 : List Bk, .tuple #[] = v ∧ A' = [.gs v7675 c7771 (csz api_Node), .grp ks7772] ∧ RD (α := api_Node) Z' c7771 r ks7772 := by
  refine fn_intro (A := [.gs v7675 c7676 (csz api_Node), .grp ks7677]) (Q := fun v Z' A' => ∃ c7771 : List Value, ∃ ks7772 : List Bk, .tuple #[] = v ∧ A' = [.gs v7675 c7771 (csz api_Node), .grp ks7772] ∧ RD (α := api_Node) Z' c7771 r ks7772) Go.Proofs.Try.func24 rfl rfl (by kernel_rfl) hP ?_
  intro hs hS
  unfold correctorref10_reach at hm
  refine sr r24_0 ?_
  refine xe 2 [(6, V a1), (0, v7675), (2, V a2)] ?_
  obtain ⟨o7859, ho7858, hm⟩ := obind hm
  refine W_join [] (fun l h => ∃ Z7910 : Zn, ∃ x7911 : List api_Node, ∃ c7913 : List Value, ∃ ks7914 : List Bk, x7911 = o7859 ∧ RD (α := api_Node) Z7910 c7913 x7911 ks7914 ∧ l = [] ∧ St hs (idsL [.gs v7675 c7676 (csz api_Node), .grp ks7677]) Z (0, 0) Z7910 h [.gs v7675 c7913 (csz api_Node), .grp ks7914]) ?_ ?_
  rintro l h7915 ⟨Z7910, x7911, c7913, ks7914, rfl, q7912, rfl, hS7916⟩
  try dsimp only at hm
  obtain rfl := Option.some.inj hm
  refine ⟨_, _, _, ResL.nil, hS7916, ?_⟩
  exact ⟨c7913, ks7914, rfl, rfl, q7912⟩
  refine bk 0 ?_
  refine lp [0, 2, 6] (fun n l h => ∃ Z7860 : Zn, ∃ x7861 : List api_Node, ∃ x7865 : Int, ∃ c7863 : List Value, ∃ ks7864 : List Bk, correctorref10_reach_l0 F a0 a1 a2 n x7861 x7865 = some o7859 ∧ RD (α := api_Node) Z7860 c7863 x7861 ks7864 ∧ l = [(0, v7675), (2, V a2), (6, V x7865)] ∧ St hs (idsL [.gs v7675 c7676 (csz api_Node), .grp ks7677]) Z (0, 0) Z7860 h [.gs v7675 c7863 (csz api_Node), .grp ks7864]) F ⟨_, a0, a1, c7676, ks7677, ho7858, q7674, rfl, hS⟩ ?_
  rintro n7868 l h7866 ⟨Z7860, x7861, x7865, c7863, ks7864, ho7858, q7862, rfl, hS7867⟩
  rcases n7868 with _ | n7868
  cases (show none = some o7859 from ho7858)
  rw [correctorref10_reach_l0] at ho7858
  refine sq ?_
  refine sr r24_1 ?_
  refine xq 1 [(8, V x7865), (0, v7675), (2, V a2), (6, V x7865)] ?_
  rcases ifs ho7858 with ⟨hp7871, ho7858⟩ | ⟨hp7871, ho7858⟩
  refine r_step rfl trivial (o_cmp rfl rfl (c_geq_T hp7871)) ?_
  refine xf [(9, .bool true), (0, v7675), (2, V a2), (6, V x7865)] ?_
  refine kT 9 rfl ?_
  refine sq ?_
  refine bk 1 ?_
  refine rg r24_3 ?_
  refine xq 4 [(18, V x7865), (17, v7675), (16, V x7865), (15, v7675), (0, v7675), (2, V a2), (6, V x7865)] ?_
  obtain ⟨hc7872, ho7858⟩ := chk ho7858
  refine r_step rfl trivial (o_index rfl rfl (by kernel_rfl : slTy _ _ = some (csz api_Node)) (hS7867.dbased (i := 0) rfl (q7862).raw (by omega)) hc7872.1 hc7872.2) ?_
  refine xq 1 [(20, .pointer (some (elemA v7675 x7865 (csz api_Node) 2))), (16, V x7865), (15, v7675), (0, v7675), (2, V a2), (6, V x7865)] ?_
  obtain ⟨x7873, hx7874, ho7858⟩ := obind ho7858
  obtain ⟨w7879, cs7875, hd7880, ho7881, he7877, ht7878⟩ := hS7867.del (j := 0) rfl (q7862).raw (i := x7865) hx7874
  obtain rfl := drc_api_Node hd7880
  refine r_step rfl trivial (o_lde (w := V x7873.To) he7877 rfl (by kernel_rfl)) ?_
  refine xq 2 [(23, V (imax x7873.To a2)), (16, V x7865), (15, v7675), (0, v7675), (2, V a2), (6, V x7865)] ?_
  obtain ⟨hc7882, ho7858⟩ := chk ho7858
  refine r_step rfl trivial (o_index rfl rfl (by kernel_rfl : slTy _ _ = some (csz api_Node)) (hS7867.dbased (i := 0) rfl (q7862).raw (by omega)) hc7882.1 hc7882.2) ?_
  refine xq 1 [(25, .pointer (some (elemA v7675 x7865 (csz api_Node) 2))), (23, V (imax x7873.To a2)), (0, v7675), (2, V a2), (6, V x7865)] ?_
  obtain ⟨x7883, hx7884, ho7858⟩ := obind ho7858
  obtain ⟨w7889, cs7885, hd7890, ho7891, he7887, ht7888⟩ := hS7867.del (j := 0) rfl (q7862).raw (i := x7865) hx7884
  obtain rfl := drc_api_Node hd7890
  refine r_ex2 rfl trivial (o_sted (z' := (⟨x7883.Kind, x7883.From, imax x7873.To a2, x7883.Up, x7883.Kids, x7883.Key⟩ : api_Node)) (vs := [V (imax x7873.To a2)]) (cs' := [V x7883.Kind, V x7883.From, V (imax x7873.To a2), V x7883.Up, w7889, .bool x7883.Key]) hS7867 (m := 0) rfl q7862 hx7884 ht7888 rfl rfl rfl (by kernel_rfl) rfl rfl rfl (show DCell.drc _ _ _ from rfl) (show DCell.drc _ _ _ from rfl) rfl) ?_
  rintro h7892 c7893 ⟨q7895, hS7894⟩
  replace hS7894 : St _ _ _ _ _ _ [.gs v7675 c7893 (csz api_Node), .grp ks7864] := hS7894
  refine xf [(0, v7675), (2, V a2), (6, V x7865)] ?_
  refine rg r24_2 ?_
  refine xq 2 [(11, V x7865), (10, v7675), (0, v7675), (2, V a2), (6, V x7865)] ?_
  obtain ⟨hc7896, ho7858⟩ := chk ho7858
  refine r_step rfl trivial (o_index rfl rfl (by kernel_rfl : slTy _ _ = some (csz api_Node)) (hS7894.dbased (i := 0) rfl (q7895).raw (by omega)) hc7896.1 hc7896.2) ?_
  refine xq 1 [(13, .pointer (some (elemA v7675 x7865 (csz api_Node) 3))), (0, v7675), (2, V a2), (6, V x7865)] ?_
  obtain ⟨x7897, hx7898, ho7858⟩ := obind ho7858
  obtain ⟨w7903, cs7899, hd7904, ho7905, he7901, ht7902⟩ := hS7894.del (j := 0) rfl (q7895).raw (i := x7865) hx7898
  obtain rfl := drc_api_Node hd7904
  refine r_step rfl trivial (o_lde (w := V x7897.Up) he7901 rfl (by kernel_rfl)) ?_
  refine xe 1 [(6, V x7897.Up), (0, v7675), (2, V a2)] ?_
  exact ⟨n7868, Nat.lt_succ_self _, ⟨_, x7861.set x7865.toNat (⟨x7883.Kind, x7883.From, imax x7873.To a2, x7883.Up, x7883.Kids, x7883.Key⟩ : api_Node), x7897.Up, c7893, ks7864, ho7858, q7895, rfl, hS7894⟩⟩
  refine r_step rfl trivial (o_cmp rfl rfl (c_geq_F hp7871)) ?_
  refine xf [(9, .bool false), (0, v7675), (2, V a2), (6, V x7865)] ?_
  refine cF 9 rfl ?_
  refine xt 0 ?_
  refine blkX_hit ?_
  obtain rfl := Option.some.inj ho7858
  exact ⟨_, x7861, c7863, ks7864, rfl, q7862, rfl, hS7867⟩

def r15_0 : List COp := [u 5 (.box 29 (t 0)), u 10 (.alloc 29), u 11 (.assign (ci 0))]
def r15_1 : List COp := [u 15 (.move (t 1)), u 16 (.binOp .lss 3 (t 15) (ci 0) 3), u 17 (.move (t 16)), gN 17 (some 18) (.move (t 1)), gN 17 (some 19) (.fieldAddr 29 (t 5) 0), gN 17 (some 20) (.load 25 (t 19)), gN 17 (some 21) (cb .len #[(t 20)] #[25]), gN 17 (some 22) (.binOp .geq 3 (t 18) (t 21) 3), u 23 (.pick (t 17) (.const (.bool true)) (t 22)), u 24 (.move (t 23)), gN 24 (some 25) (.move (t 2)), gN 24 (some 26) (.binOp .lss 3 (t 25) (ci 1) 3), u 27 (.pick (t 24) (.const (.bool true)) (t 26)), u 28 (.move (t 27)), gN 28 (some 29) (.move (t 2)), gN 28 (some 30) (.binOp .gtr 3 (t 29) (ci 11) 3), u 31 (.pick (t 28) (.const (.bool true)) (t 30)), u 32 (.move (t 31)), gN 32 (some 33) (.move (t 3)), gN 32 (some 34) (.move (t 4)), gN 32 (some 35) (.binOp .gtr 3 (t 33) (t 34) 3), u 36 (.pick (t 32) (.const (.bool true)) (t 35)), u 37 (.move (t 36)), gN 37 (some 38) (.move (t 4)), gN 37 (some 39) (.fieldAddr 29 (t 5) 0), gN 37 (some 40) (.load 25 (t 39)), gN 37 (some 41) (.indexAddr 25 (t 40) (ci 0)), gN 37 (some 42) (.fieldAddr 46 (t 41) 2), gN 37 (some 43) (.load 3 (t 42)), gN 37 (some 44) (.binOp .gtr 3 (t 38) (t 43) 3), u 45 (.pick (t 37) (.const (.bool true)) (t 44))]
def r15_2 : List COp := [u 46 (.load 29 (t 5)), o (.store 29 (t 10) (t 46)), u 11 (.assign (ci (-1)))]
def r15_3 : List COp := [u 47 (.fieldAddr 29 (t 5) 0), u 48 (.load 25 (t 47)), u 49 (.move (t 1)), u 50 (.indexAddr 25 (t 48) (t 49)), u 51 (.load 46 (t 50)), u 12 (.alloc 46), o (.store 46 (t 12) (t 51))]
def r15_4 : List COpF := [uF 52 (.move (t 3)) .pure [], uF 53 (.fieldAddr 46 (t 12) 1) .pure [], uF 54 (.load 3 (t 53)) .look [], uF 55 (.binOp .lss 3 (t 52) (t 54) 3) .pure [], uF 56 (.move (t 55)) .pure [], gNF 56 (some 57) (.fieldAddr 46 (t 12) 4) .pure [], gNF 56 (some 58) (.load 44 (t 57)) .look [], gNF 56 (some 59) (cb .len #[(t 58)] #[44]) .pure [], gNF 56 (some 60) (.binOp .gtr 3 (t 59) (ci 0) 3) .pure [], gNF 56 (some 61) (.move (t 60)) .pure [], gTF 61 (some 62) (.move (t 3)) .pure [], gTF 61 (some 63) (.fieldAddr 29 (t 5) 0) .pure [], gTF 61 (some 64) (.load 25 (t 63)) .look [], gTF 61 (some 65) (.fieldAddr 46 (t 12) 4) .pure [], gTF 61 (some 66) (.load 44 (t 65)) .look [], gTF 61 (some 67) (.fieldAddr 46 (t 12) 4) .pure [], gTF 61 (some 68) (.load 44 (t 67)) .look [], gTF 61 (some 69) (cb .len #[(t 68)] #[44]) .pure [], gTF 61 (some 70) (.binOp .sub 3 (t 69) (ci 1) 3) .pure [], gTF 61 (some 71) (.indexAddr 44 (t 66) (t 70)) .pure [], gTF 61 (some 72) (.load 3 (t 71)) .look [], gTF 61 (some 73) (.indexAddr 25 (t 64) (t 72)) .pure [], gTF 61 (some 74) (.fieldAddr 46 (t 73) 2) .pure [], gTF 61 (some 75) (.load 3 (t 74)) .look [], gTF 61 (some 76) (.binOp .lss 3 (t 62) (t 75) 3) .pure [], gNF 56 (some 77) (.pick (t 61) (t 76) (.const (.bool false))) .pure [], uF 78 (.pick (t 56) (.const (.bool true)) (t 77)) .pure []]
def r15_5 : List COp := [u 79 (.load 29 (t 5)), o (.store 29 (t 10) (t 79)), u 11 (.assign (ci (-1)))]
def r15_6 : List COp := [u 80 (.load 29 (t 5)), u 81 (cf 23 #[(t 80)] #[29]), u 13 (.assign (t 81))]
def r15_7 : List COp := [u 82 (.move (t 13)), u 83 (cb .len #[(t 82)] #[25]), u 14 (.assign (t 83))]
def r15_8 : List COp := [u 84 (.move (t 13)), u 85 (.move (t 2)), u 86 (.move (t 3)), u 87 (.move (t 4)), u 88 (.move (t 1)), u 89 (.build 46 #[(0, (t 85)), (1, (t 86)), (2, (t 87)), (3, (t 88))]), u 90 (.buildSlice 25 1 #[(0, (t 89))]), u 91 (cb .append #[(t 84), (t 90)] #[25, 25]), u 13 (.assign (t 91))]
def r15_9 : List COp := [u 92 (.move (t 13)), u 93 (.move (t 1)), u 94 (.move (t 13)), u 95 (.move (t 1)), u 96 (.indexAddr 25 (t 94) (t 95)), u 97 (.fieldAddr 46 (t 96) 4), u 98 (.load 44 (t 97)), u 99 (.move (t 14)), u 100 (.buildSlice 44 1 #[(0, (t 99))]), u 101 (cb .append #[(t 98), (t 100)] #[44, 44]), u 102 (.indexAddr 25 (t 92) (t 93)), u 103 (.fieldAddr 46 (t 102) 4), o (.store 44 (t 103) (t 101))]
def r15_10 : List COp := [u 104 (.move (t 13)), u 105 (.move (t 1)), u 106 (.move (t 4)), u 107 (cf 24 #[(t 104), (t 105), (t 106)] #[25, 3, 3])]
def r15_11 : List COp := [u 108 (.move (t 13)), u 109 (.build 29 #[(0, (t 108))]), u 110 (.move (t 14)), o (.store 29 (t 10) (t 109)), u 11 (.assign (t 110))]
def correctorref10_Add (F : Nat) (a0 : correctorref10_Tree) (a1 : Int) (a2 : Int) (a3 : Int) (a4 : Int) : Option (correctorref10_Tree × Int) :=
  if a1 < (0 : Int) then
    some (a0, (-1))
  else
    if (a0.Nodes.length : Int) ≤ a1 then
      some (a0, (-1))
    else
      if a2 < (1 : Int) then
        some (a0, (-1))
      else
        if (11 : Int) < a2 then
          some (a0, (-1))
        else
          if a4 < a3 then
            some (a0, (-1))
          else
            if 0 ≤ (0 : Int) ∧ (0 : Int) < (a0.Nodes.length : Int) then
              (a0.Nodes[(0 : Int).toNat]?).bind fun x8025 =>
              if x8025.To < a4 then
                some (a0, (-1))
              else
                if 0 ≤ a1 ∧ a1 < (a0.Nodes.length : Int) then
                  (a0.Nodes[a1.toNat]?).bind fun x8039 =>
                  ((if a3 < x8039.From then
                      some (.inr (a0, (-1)))
                    else
                      if (0 : Int) < (x8039.Kids.length : Int) then
                        if 0 ≤ (w64 ((x8039.Kids.length : Int) - 1)) ∧ (w64 ((x8039.Kids.length : Int) - 1)) < (x8039.Kids.length : Int) then
                          (x8039.Kids[(w64 ((x8039.Kids.length : Int) - 1)).toNat]?).bind fun x8105 =>
                          if 0 ≤ x8105 ∧ x8105 < (a0.Nodes.length : Int) then
                            (a0.Nodes[x8105.toNat]?).bind fun x8112 =>
                            if a3 < x8112.To then
                              some (.inr (a0, (-1)))
                            else
                              some (.inl ())
                          else none
                        else none
                      else
                        some (.inl ())) : Option (Sum Unit (correctorref10_Tree × Int))).bind fun o => match o with
                    | .inl () => (correctorref10_copied F a0).bind fun r8131 =>
                    if r8131.length + [(⟨a2, a3, a4, a1, [], false⟩ : api_Node)].length ≤ 2199023255552 then
                      if 0 ≤ a1 ∧ a1 < ((r8131 ++ [(⟨a2, a3, a4, a1, [], false⟩ : api_Node)]).length : Int) then
                        ((r8131 ++ [(⟨a2, a3, a4, a1, [], false⟩ : api_Node)])[a1.toNat]?).bind fun x8165 =>
                        if x8165.Kids.length + ([(r8131.length : Int)] : List Int).length ≤ 17592186044416 then
                          if 0 ≤ a1 ∧ a1 < ((r8131 ++ [(⟨a2, a3, a4, a1, [], false⟩ : api_Node)]).length : Int) then
                            (correctorref10_reach F ((r8131 ++ [(⟨a2, a3, a4, a1, [], false⟩ : api_Node)]).set a1.toNat (⟨x8165.Kind, x8165.From, x8165.To, x8165.Up, x8165.Kids ++ ([(r8131.length : Int)] : List Int), x8165.Key⟩ : api_Node)) a1 a4).bind fun r8196 =>
                            some ((⟨r8196⟩ : correctorref10_Tree), (r8131.length : Int))
                          else none
                        else none
                      else none
                    else none
                    | .inr y => some y
                else none
            else none
theorem correctorref10_Add_ok (F : Nat) {h : AH} {Z : Zn} {a0 : correctorref10_Tree} {a1 : Int} {a2 : Int} {a3 : Int} {a4 : Int} {v7111 : Value} (hP : Pre Z h []) (q7110 : RS (α := api_Node) Z v7111 a0.Nodes) {r : correctorref10_Tree × Int} (hm : correctorref10_Add F a0 a1 a2 a3 a4 = some r) :
    ∃ v h' Z' A', callI Go.Proofs.Try.prog 15 [.agg #[v7111], V a1, V a2, V a3, V a4] h = some (v, h') ∧ St h (idsL []) Z (0, 0) Z' h' A' ∧ ∃ v7938 : Value, .tuple #[.agg #[v7938], V r.2] = v ∧ A' = [] ∧ RS (α := api_Node) Z' v7938 r.1.Nodes := by
  refine fn_intro (A := []) (Q := fun v Z' A' => ∃ v7938 : Value, .tuple #[.agg #[v7938], V r.2] = v ∧ A' = [] ∧ RS (α := api_Node) Z' v7938 r.1.Nodes) Go.Proofs.Try.func15 rfl rfl (by kernel_rfl) hP ?_
  intro hs hS
  unfold correctorref10_Add at hm
  replace hS : St hs [] Z (0, 0) Z hs [] := hS
  refine sr r15_0 ?_
  refine r_blk rfl trivial (o_box (cs := [v7111]) rfl rfl) hS ?_
  intro b7939 h7940 hS7941
  refine r_blk rfl trivial (o_alloc (cs := [.slice none 0 0]) (by kernel_rfl)) hS7941 ?_
  intro b7942 h7943 hS7944
  refine xe 1 [(10, Pt b7942 0), (5, Pt b7939 0), (1, V a1), (2, V a2), (3, V a3), (4, V a4)] ?_
  refine sq ?_
  refine sr r15_1 ?_
  refine xq 1 [(15, V a1), (10, Pt b7942 0), (5, Pt b7939 0), (1, V a1), (2, V a2), (3, V a3), (4, V a4)] ?_
  rcases ifs hm with ⟨hp7999, hm⟩ | ⟨hp7999, hm⟩
  refine r_step rfl trivial (o_cmp rfl rfl (c_lss_T hp7999)) ?_
  refine xe 29 [(45, .bool true), (10, Pt b7942 0), (5, Pt b7939 0), (1, V a1), (2, V a2), (3, V a3), (4, V a4)] ?_
  refine cT 45 rfl ?_
  refine sr r15_2 ?_
  refine r_step rfl trivial (o_ldb (v := .agg #[v7111]) hS7944 (i := 1) rfl rfl (by kernel_rfl)) ?_
  refine r_ex1 rfl trivial (o_stb (vs := [v7111]) (cells' := [v7111]) (L' := [.blk b7942 [v7111], .blk b7939 [v7111]]) hS7944 (i := 0) rfl rfl rfl rfl (by kernel_rfl) (one_cons (RS.one1 q7110) one_nil) rfl rfl rfl) ?_
  intro h8002 hS8003
  refine xe 1 [(11, V (-1)), (10, Pt b7942 0)] ?_
  refine rt ?_
  refine ⟨rfl, ?_⟩
  obtain rfl := Option.some.inj hm
  refine ⟨_, _, _, ResL.cell (v := .agg #[v7111]) rfl hS8003 (i := 0) rfl (by kernel_rfl) (ResL.tmp rfl (ResL.nil)), (hS8003.takeN 0), ?_⟩
  exact ⟨v7111, rfl, rfl, q7110⟩
  refine r_step rfl trivial (o_cmp rfl rfl (c_lss_F hp7999)) ?_
  refine xq 3 [(19, Pt b7939 0), (18, V a1), (17, .bool false), (10, Pt b7942 0), (5, Pt b7939 0), (1, V a1), (2, V a2), (3, V a3), (4, V a4)] ?_
  refine r_step rfl rfl (o_ldb (v := v7111) hS7944 (i := 1) rfl rfl (by kernel_rfl)) ?_
  refine r_step rfl rfl (o_len rfl (RS.len q7110) ⟨_, Go.Proofs.Try.underlying25⟩) ?_
  rcases ifs hm with ⟨hp8004, hm⟩ | ⟨hp8004, hm⟩
  refine r_step rfl rfl (o_cmp rfl rfl (c_geq_T hp8004)) ?_
  refine xe 23 [(45, .bool true), (10, Pt b7942 0), (5, Pt b7939 0), (1, V a1), (2, V a2), (3, V a3), (4, V a4)] ?_
  refine cT 45 rfl ?_
  refine sr r15_2 ?_
  refine r_step rfl trivial (o_ldb (v := .agg #[v7111]) hS7944 (i := 1) rfl rfl (by kernel_rfl)) ?_
  refine r_ex1 rfl trivial (o_stb (vs := [v7111]) (cells' := [v7111]) (L' := [.blk b7942 [v7111], .blk b7939 [v7111]]) hS7944 (i := 0) rfl rfl rfl rfl (by kernel_rfl) (one_cons (RS.one1 q7110) one_nil) rfl rfl rfl) ?_
  intro h8007 hS8008
  refine xe 1 [(11, V (-1)), (10, Pt b7942 0)] ?_
  refine rt ?_
  refine ⟨rfl, ?_⟩
  obtain rfl := Option.some.inj hm
  refine ⟨_, _, _, ResL.cell (v := .agg #[v7111]) rfl hS8008 (i := 0) rfl (by kernel_rfl) (ResL.tmp rfl (ResL.nil)), (hS8008.takeN 0), ?_⟩
  exact ⟨v7111, rfl, rfl, q7110⟩
  refine r_step rfl rfl (o_cmp rfl rfl (c_geq_F hp8004)) ?_
  refine xq 3 [(25, V a2), (24, .bool false), (10, Pt b7942 0), (5, Pt b7939 0), (1, V a1), (2, V a2), (3, V a3), (4, V a4)] ?_
  rcases ifs hm with ⟨hp8009, hm⟩ | ⟨hp8009, hm⟩
  refine r_step rfl rfl (o_cmp rfl rfl (c_lss_T hp8009)) ?_
  refine xe 19 [(45, .bool true), (10, Pt b7942 0), (5, Pt b7939 0), (1, V a1), (2, V a2), (3, V a3), (4, V a4)] ?_
  refine cT 45 rfl ?_
  refine sr r15_2 ?_
  refine r_step rfl trivial (o_ldb (v := .agg #[v7111]) hS7944 (i := 1) rfl rfl (by kernel_rfl)) ?_
  refine r_ex1 rfl trivial (o_stb (vs := [v7111]) (cells' := [v7111]) (L' := [.blk b7942 [v7111], .blk b7939 [v7111]]) hS7944 (i := 0) rfl rfl rfl rfl (by kernel_rfl) (one_cons (RS.one1 q7110) one_nil) rfl rfl rfl) ?_
  intro h8012 hS8013
  refine xe 1 [(11, V (-1)), (10, Pt b7942 0)] ?_
  refine rt ?_
  refine ⟨rfl, ?_⟩
  obtain rfl := Option.some.inj hm
  refine ⟨_, _, _, ResL.cell (v := .agg #[v7111]) rfl hS8013 (i := 0) rfl (by kernel_rfl) (ResL.tmp rfl (ResL.nil)), (hS8013.takeN 0), ?_⟩
  exact ⟨v7111, rfl, rfl, q7110⟩
  refine r_step rfl rfl (o_cmp rfl rfl (c_lss_F hp8009)) ?_
  refine xq 3 [(29, V a2), (28, .bool false), (10, Pt b7942 0), (5, Pt b7939 0), (1, V a1), (2, V a2), (3, V a3), (4, V a4)] ?_
  rcases ifs hm with ⟨hp8014, hm⟩ | ⟨hp8014, hm⟩
  refine r_step rfl rfl (o_cmp rfl rfl (c_gtr_T hp8014)) ?_
  refine xe 15 [(45, .bool true), (10, Pt b7942 0), (5, Pt b7939 0), (1, V a1), (2, V a2), (3, V a3), (4, V a4)] ?_
  refine cT 45 rfl ?_
  refine sr r15_2 ?_
  refine r_step rfl trivial (o_ldb (v := .agg #[v7111]) hS7944 (i := 1) rfl rfl (by kernel_rfl)) ?_
  refine r_ex1 rfl trivial (o_stb (vs := [v7111]) (cells' := [v7111]) (L' := [.blk b7942 [v7111], .blk b7939 [v7111]]) hS7944 (i := 0) rfl rfl rfl rfl (by kernel_rfl) (one_cons (RS.one1 q7110) one_nil) rfl rfl rfl) ?_
  intro h8017 hS8018
  refine xe 1 [(11, V (-1)), (10, Pt b7942 0)] ?_
  refine rt ?_
  refine ⟨rfl, ?_⟩
  obtain rfl := Option.some.inj hm
  refine ⟨_, _, _, ResL.cell (v := .agg #[v7111]) rfl hS8018 (i := 0) rfl (by kernel_rfl) (ResL.tmp rfl (ResL.nil)), (hS8018.takeN 0), ?_⟩
  exact ⟨v7111, rfl, rfl, q7110⟩
  refine r_step rfl rfl (o_cmp rfl rfl (c_gtr_F hp8014)) ?_
  refine xq 4 [(34, V a4), (33, V a3), (32, .bool false), (10, Pt b7942 0), (5, Pt b7939 0), (1, V a1), (2, V a2), (3, V a3), (4, V a4)] ?_
  rcases ifs hm with ⟨hp8019, hm⟩ | ⟨hp8019, hm⟩
  refine r_step rfl rfl (o_cmp rfl rfl (c_gtr_T hp8019)) ?_
  refine xe 10 [(45, .bool true), (10, Pt b7942 0), (5, Pt b7939 0), (1, V a1), (2, V a2), (3, V a3), (4, V a4)] ?_
  refine cT 45 rfl ?_
  refine sr r15_2 ?_
  refine r_step rfl trivial (o_ldb (v := .agg #[v7111]) hS7944 (i := 1) rfl rfl (by kernel_rfl)) ?_
  refine r_ex1 rfl trivial (o_stb (vs := [v7111]) (cells' := [v7111]) (L' := [.blk b7942 [v7111], .blk b7939 [v7111]]) hS7944 (i := 0) rfl rfl rfl rfl (by kernel_rfl) (one_cons (RS.one1 q7110) one_nil) rfl rfl rfl) ?_
  intro h8022 hS8023
  refine xe 1 [(11, V (-1)), (10, Pt b7942 0)] ?_
  refine rt ?_
  refine ⟨rfl, ?_⟩
  obtain rfl := Option.some.inj hm
  refine ⟨_, _, _, ResL.cell (v := .agg #[v7111]) rfl hS8023 (i := 0) rfl (by kernel_rfl) (ResL.tmp rfl (ResL.nil)), (hS8023.takeN 0), ?_⟩
  exact ⟨v7111, rfl, rfl, q7110⟩
  refine r_step rfl rfl (o_cmp rfl rfl (c_gtr_F hp8019)) ?_
  refine xq 4 [(39, Pt b7939 0), (38, V a4), (37, .bool false), (10, Pt b7942 0), (5, Pt b7939 0), (1, V a1), (2, V a2), (3, V a3), (4, V a4)] ?_
  refine r_step rfl rfl (o_ldb (v := v7111) hS7944 (i := 1) rfl rfl (by kernel_rfl)) ?_
  obtain ⟨hc8024, hm⟩ := chk hm
  refine r_step rfl rfl (o_index rfl rfl (by kernel_rfl : slTy _ _ = some (csz api_Node)) (RS.based q7110 (by omega)) hc8024.1 hc8024.2) ?_
  refine xq 1 [(42, .pointer (some (elemA v7111 0 (csz api_Node) 2))), (38, V a4), (37, .bool false), (10, Pt b7942 0), (5, Pt b7939 0), (1, V a1), (2, V a2), (3, V a3), (4, V a4)] ?_
  obtain ⟨x8025, hx8026, hm⟩ := obind hm
  obtain ⟨cs8027, hc8028, he8029⟩ := RS.elz q7110 (i := 0) hx8026
  obtain ⟨v8031, q8032, rfl⟩ := rc_api_Node hc8028
  refine r_step rfl rfl (o_lde (w := V x8025.To) (he8029 _ (hS7944.zin0 (Zle.refl _))) rfl (by kernel_rfl)) ?_
  rcases ifs hm with ⟨hp8033, hm⟩ | ⟨hp8033, hm⟩
  refine r_step rfl rfl (o_cmp rfl rfl (c_gtr_T hp8033)) ?_
  refine xe 1 [(45, .bool true), (10, Pt b7942 0), (5, Pt b7939 0), (1, V a1), (2, V a2), (3, V a3), (4, V a4)] ?_
  refine cT 45 rfl ?_
  refine sr r15_2 ?_
  refine r_step rfl trivial (o_ldb (v := .agg #[v7111]) hS7944 (i := 1) rfl rfl (by kernel_rfl)) ?_
  refine r_ex1 rfl trivial (o_stb (vs := [v7111]) (cells' := [v7111]) (L' := [.blk b7942 [v7111], .blk b7939 [v7111]]) hS7944 (i := 0) rfl rfl rfl rfl (by kernel_rfl) (one_cons (RS.one1 q7110) one_nil) rfl rfl rfl) ?_
  intro h8036 hS8037
  refine xe 1 [(11, V (-1)), (10, Pt b7942 0)] ?_
  refine rt ?_
  refine ⟨rfl, ?_⟩
  obtain rfl := Option.some.inj hm
  refine ⟨_, _, _, ResL.cell (v := .agg #[v7111]) rfl hS8037 (i := 0) rfl (by kernel_rfl) (ResL.tmp rfl (ResL.nil)), (hS8037.takeN 0), ?_⟩
  exact ⟨v7111, rfl, rfl, q7110⟩
  refine r_step rfl rfl (o_cmp rfl rfl (c_gtr_F hp8033)) ?_
  refine xe 1 [(45, .bool false), (10, Pt b7942 0), (5, Pt b7939 0), (1, V a1), (2, V a2), (3, V a3), (4, V a4)] ?_
  refine kF 45 rfl ?_
  refine sr r15_3 ?_
  refine xq 1 [(47, Pt b7939 0), (10, Pt b7942 0), (5, Pt b7939 0), (1, V a1), (2, V a2), (3, V a3), (4, V a4)] ?_
  refine r_step rfl trivial (o_ldb (v := v7111) hS7944 (i := 1) rfl rfl (by kernel_rfl)) ?_
  refine xq 1 [(49, V a1), (48, v7111), (10, Pt b7942 0), (5, Pt b7939 0), (1, V a1), (2, V a2), (3, V a3), (4, V a4)] ?_
  obtain ⟨hc8038, hm⟩ := chk hm
  refine r_step rfl trivial (o_index rfl rfl (by kernel_rfl : slTy _ _ = some (csz api_Node)) (RS.based q7110 (by omega)) hc8038.1 hc8038.2) ?_
  obtain ⟨x8039, hx8040, hm⟩ := obind hm
  obtain ⟨cs8041, hc8042, he8043⟩ := RS.elz q7110 (i := a1) hx8040
  obtain ⟨v8045, q8046, rfl⟩ := rc_api_Node hc8042
  refine r_step rfl trivial (o_lde (w := .agg #[V x8039.Kind, V x8039.From, V x8039.To, V x8039.Up, v8045, .bool x8039.Key]) (he8043 _ (hS7944.zin0 (Zle.refl _))) rfl (by kernel_rfl)) ?_
  refine r_blk rfl trivial (o_alloc (cs := [V 0, V 0, V 0, V 0, .slice none 0 0, .bool false]) (by kernel_rfl)) hS7944 ?_
  intro b8047 h8048 hS8049
  refine r_ex1 rfl trivial (o_stb (vs := [V x8039.Kind, V x8039.From, V x8039.To, V x8039.Up, v8045, .bool x8039.Key]) (cells' := (K46 v8045 x8039)) (L' := [.blk b8047 (K46 v8045 x8039), .blk b7942 [.slice none 0 0], .blk b7939 [v7111]]) hS8049 (i := 0) rfl rfl rfl rfl (by kernel_rfl) (one_cons rfl (one_cons rfl (one_cons rfl (one_cons rfl (one_cons (RS.one1 q8046) (one_cons rfl one_nil)))))) rfl rfl rfl) ?_
  intro h8050 hS8051
  refine xf [(12, Pt b8047 0), (10, Pt b7942 0), (5, Pt b7939 0), (1, V a1), (2, V a2), (3, V a3), (4, V a4)] ?_
  refine sq ?_
  obtain ⟨o8089, ho8088, hm⟩ := obind hm
  refine W_join [1, 2, 3, 4, 5, 10] (fun l h => ∃ Z8126 : Zn, ∃ b8127 : Nat, ∃ b8128 : Nat, .inl () = o8089 ∧ l = [(1, V a1), (2, V a2), (3, V a3), (4, V a4), (5, Pt b8127 0), (10, Pt b8128 0)] ∧ St hs [] Z (0, 0) Z8126 h [.blk b8127 [v7111], .blk b8128 [.slice none 0 0]]) ?_ ?_
  rintro l h8129 ⟨Z8126, b8127, b8128, rfl, rfl, hS8130⟩
  try dsimp only at hm
  refine sr r15_6 ?_
  refine r_step rfl trivial (o_ldb (v := .agg #[v7111]) hS8130 (i := 0) rfl rfl (by kernel_rfl)) ?_
  obtain ⟨r8131, hx8132, hm⟩ := obind hm
  have hSr8138 : St _ _ _ _ _ _ ([] ++ [.blk b8127 [v7111], .blk b8128 [.slice none 0 0]]) := hS8130
  obtain ⟨v8133, h8134, Z8139, A8141, hcl8135, hSc8136, v8143, c8144, ks8145, rfl, rfl, q8142⟩ := correctorref10_copied_ok F hSr8138.preL (q7110.mono hS8130.zle) hx8132
  have hS8137 := hSr8138.call hSc8136
  have hZ8140 := hSc8136.zle
  replace hS8137 : St _ _ _ _ _ _ [.gs v8143 c8144 (csz api_Node), .grp ks8145, .blk b8127 [v7111], .blk b8128 [.slice none 0 0]] := hS8137
  refine r_step rfl trivial (o_call hcl8135 rfl rfl rfl) ?_
  refine xe 1 [(13, v8143), (1, V a1), (2, V a2), (3, V a3), (4, V a4), (10, Pt b8128 0)] ?_
  refine sr r15_7 ?_
  refine xq 1 [(82, v8143), (13, v8143), (1, V a1), (2, V a2), (3, V a3), (4, V a4), (10, Pt b8128 0)] ?_
  refine r_step rfl trivial (o_len rfl (hS8137.dlen (i := 0) rfl (q8142).raw) ⟨_, Go.Proofs.Try.underlying25⟩) ?_
  refine xe 1 [(14, V (r8131.length : Int)), (13, v8143), (1, V a1), (2, V a2), (3, V a3), (4, V a4), (10, Pt b8128 0)] ?_
  refine sr r15_8 ?_
  refine xq 6 [(89, .agg #[V a2, V a3, V a4, V a1, .slice none 0 0, .bool false]), (84, v8143), (14, V (r8131.length : Int)), (13, v8143), (1, V a1), (4, V a4), (10, Pt b8128 0)] ?_
  refine r_row rfl trivial (o_bs (cells := [V a2, V a3, V a4, V a1, .slice none 0 0, .bool false]) (s := 6) (by kernel_rfl)) (by kernel_rfl) hS8137 ?_
  intro v8146 h8147 hS8148
  have hS8153 := hS8148.grpNil.front 1 rfl
  have q8149 : RD (α := api_Node) Z8139 [V a2, V a3, V a4, V a1, .slice none 0 0, .bool false] [(⟨a2, a3, a4, a1, [], false⟩ : api_Node)] [] := RD.one (show DCell.drc _ _ _ from rfl) rfl OwnR.nil
  have hS8154 : St _ _ _ _ _ _ [.gs v8146 [V a2, V a3, V a4, V a1, .slice none 0 0, .bool false] (csz api_Node), .grp [], .gs v8143 c8144 (csz api_Node), .grp ks8145, .blk b8127 [v7111], .blk b8128 [.slice none 0 0]] := hS8153
  obtain ⟨hc8156, hm⟩ := chk hm
  have hF8157 : St _ _ _ _ _ _ [.gs v8143 c8144 (csz api_Node), .grp ks8145, .gs v8146 [V a2, V a3, V a4, V a1, .slice none 0 0, .bool false] (csz api_Node), .grp [], .blk b8127 [v7111], .blk b8128 [.slice none 0 0]] := ((((hS8154.front 1 rfl).front 1 rfl).front 3 rfl).front 3 rfl)
  refine r_ex3 rfl trivial (o_appD (by_ := 64) hF8157 q8142 q8149 rfl rfl (by kernel_rfl) (by omega) (by omega)) ?_
  rintro v8158 c8159 h8160 ⟨q8162, hS8161⟩
  replace hS8161 : St _ _ _ _ _ _ [.gs v8158 c8159 (csz api_Node), .grp (ks8145 ++ []), .blk b8127 [v7111], .blk b8128 [.slice none 0 0]] := hS8161
  refine xe 1 [(13, v8158), (14, V (r8131.length : Int)), (1, V a1), (4, V a4), (10, Pt b8128 0)] ?_
  refine sr r15_9 ?_
  refine xq 4 [(95, V a1), (94, v8158), (93, V a1), (92, v8158), (13, v8158), (14, V (r8131.length : Int)), (1, V a1), (4, V a4), (10, Pt b8128 0)] ?_
  obtain ⟨hc8164, hm⟩ := chk hm
  refine r_step rfl trivial (o_index rfl rfl (by kernel_rfl : slTy _ _ = some (csz api_Node)) (hS8161.dbased (i := 0) rfl (q8162).raw (by omega)) hc8164.1 hc8164.2) ?_
  refine xq 1 [(97, .pointer (some (elemA v8158 a1 (csz api_Node) 4))), (93, V a1), (92, v8158), (13, v8158), (14, V (r8131.length : Int)), (1, V a1), (4, V a4), (10, Pt b8128 0)] ?_
  obtain ⟨x8165, hx8166, hm⟩ := obind hm
  have hF8167 : St _ _ _ _ _ _ [.gs v8158 c8159 (csz api_Node), .grp (ks8145 ++ []), .blk b8127 [v7111], .blk b8128 [.slice none 0 0]] := ((hS8161.front 1 rfl).front 1 rfl)
  obtain ⟨v8168, cs8169, c8170, ks8171, hd8172, he8173, q8174, hH8175, hS8176⟩ := hF8167.dtake q8162 (i := a1) hx8166
  obtain rfl := drc_api_Node hd8172
  replace q8174 : RCs (α := Int) Z8139 c8170 x8165.Kids := q8174
  replace hS8176 : St _ _ _ _ _ _ [.gs v8168 c8170 (csz Int), .gs v8158 c8159 (csz api_Node), .grp ks8171, .blk b8127 [v7111], .blk b8128 [.slice none 0 0]] := hS8176
  refine r_step rfl trivial (o_lde (w := v8168) he8173 rfl (by kernel_rfl)) ?_
  refine xq 1 [(99, V (r8131.length : Int)), (98, v8168), (93, V a1), (92, v8158), (13, v8158), (14, V (r8131.length : Int)), (1, V a1), (4, V a4), (10, Pt b8128 0)] ?_
  have q8180 : RCs (α := Int) Z8139 [V (r8131.length : Int)] ([(r8131.length : Int)] : List Int) := RCs.cons (cs := [V (r8131.length : Int)]) rfl (RCs.nil0 _)
  refine r_row rfl trivial (o_bs (cells := [V (r8131.length : Int)]) (s := 1) (by kernel_rfl)) (by kernel_rfl) hS8176 ?_
  intro v8177 h8178 hS8179
  replace hS8179 : St _ _ _ _ _ _ [.gs v8177 [V (r8131.length : Int)] (csz Int), .gs v8168 c8170 (csz Int), .gs v8158 c8159 (csz api_Node), .grp ks8171, .blk b8127 [v7111], .blk b8128 [.slice none 0 0]] := hS8179
  obtain ⟨hc8188, hm⟩ := chk hm
  refine r_ex3 rfl trivial (o_app (ys := ([(r8131.length : Int)] : List Int)) (by_ := 8) hS8179 (i := 1) rfl q8174 ((hS8179).gnews (j := 0) rfl q8180) rfl rfl (by kernel_rfl) (by omega) (by omega)) ?_
  rintro v8183 c8184 h8185 ⟨q8187, hS8186⟩
  replace hS8186 : St _ _ _ _ _ _ [.gs v8177 [V (r8131.length : Int)] (csz Int), .gs v8183 c8184 (csz Int), .gs v8158 c8159 (csz api_Node), .grp ks8171, .blk b8127 [v7111], .blk b8128 [.slice none 0 0]] := hS8186
  obtain ⟨hc8189, hm⟩ := chk hm
  refine r_step rfl trivial (o_index rfl rfl (by kernel_rfl : slTy _ _ = some (csz api_Node)) (hS8186.dbased (i := 2) rfl (hH8175).raw (by omega)) hc8189.1 hc8189.2) ?_
  refine xq 1 [(103, .pointer (some (elemA v8158 a1 (csz api_Node) 4))), (101, v8183), (13, v8158), (14, V (r8131.length : Int)), (1, V a1), (4, V a4), (10, Pt b8128 0)] ?_
  have hF8190 : St _ _ _ _ _ _ [.gs v8183 c8184 (csz Int), .gs v8158 c8159 (csz api_Node), .grp ks8171, .gs v8177 [V (r8131.length : Int)] (csz Int), .blk b8127 [v7111], .blk b8128 [.slice none 0 0]] := (((hS8186.front 3 rfl).front 3 rfl).front 3 rfl)
  refine r_ex4 rfl trivial (o_dput (z' := (⟨x8165.Kind, x8165.From, x8165.To, x8165.Up, x8165.Kids ++ ([(r8131.length : Int)] : List Int), x8165.Key⟩ : api_Node)) hF8190 hH8175 q8187 hx8166 rfl rfl (by kernel_rfl) (by kernel_rfl) hd8172 rfl (show DCell.drc _ _ _ from rfl) rfl) ?_
  rintro h8191 c8192 ks8193 ⟨q8194, hS8195⟩
  replace hS8195 : St _ _ _ _ _ _ [.gs v8158 c8192 (csz api_Node), .grp ks8193, .gs v8177 [V (r8131.length : Int)] (csz Int), .blk b8127 [v7111], .blk b8128 [.slice none 0 0]] := hS8195
  refine xf [(13, v8158), (14, V (r8131.length : Int)), (1, V a1), (4, V a4), (10, Pt b8128 0)] ?_
  refine sr r15_10 ?_
  refine xq 3 [(106, V a4), (105, V a1), (104, v8158), (13, v8158), (14, V (r8131.length : Int)), (10, Pt b8128 0)] ?_
  obtain ⟨r8196, hx8197, hm⟩ := obind hm
  have hF8203 : St _ _ _ _ _ _ ([.gs v8158 c8192 (csz api_Node), .grp ks8193] ++ [.gs v8177 [V (r8131.length : Int)] (csz Int), .blk b8127 [v7111], .blk b8128 [.slice none 0 0]]) := ((hS8195.front 1 rfl).front 1 rfl)
  obtain ⟨v8198, h8199, Z8204, A8206, hcl8200, hSc8201, c8208, ks8209, rfl, rfl, q8207⟩ := correctorref10_reach_ok F hF8203.preL q8194 hx8197
  have hZ8205 := hSc8201.zle
  have hS8202 := hF8203.call hSc8201
  replace hS8202 : St _ _ _ _ _ _ [.gs v8158 c8208 (csz api_Node), .grp ks8209, .gs v8177 [V (r8131.length : Int)] (csz Int), .blk b8127 [v7111], .blk b8128 [.slice none 0 0]] := hS8202
  refine r_step rfl trivial (o_call hcl8200 rfl rfl rfl) ?_
  refine xf [(13, v8158), (14, V (r8131.length : Int)), (10, Pt b8128 0)] ?_
  refine sr r15_11 ?_
  refine xq 1 [(108, v8158), (14, V (r8131.length : Int)), (10, Pt b8128 0)] ?_
  refine r_step rfl trivial (o_build (v := .agg #[v8158]) rfl (CA.cons (cs := [v8158]) (hS8202.gcell1 (i := 0) rfl) (CA.nil0)) (by kernel_rfl)) ?_
  refine xq 1 [(110, V (r8131.length : Int)), (109, .agg #[v8158]), (10, Pt b8128 0)] ?_
  refine r_ex1 rfl trivial (o_stb (vs := [v8158]) (cells' := [v8158]) (L' := [.gs v8158 c8208 (csz api_Node), .grp ks8209, .gs v8177 [V (r8131.length : Int)] (csz Int), .blk b8127 [v7111], .blk b8128 [v8158]]) hS8202 (i := 4) rfl rfl rfl rfl (by kernel_rfl) (one_cons (hS8202.gone1 (i := 0) rfl) one_nil) rfl rfl rfl) ?_
  intro h8210 hS8211
  refine xe 1 [(11, V (r8131.length : Int)), (10, Pt b8128 0)] ?_
  refine rt ?_
  refine ⟨rfl, ?_⟩
  have hF8216 : St _ _ _ _ _ _ [.gs v8158 c8208 (csz api_Node), .grp ks8209, .gs v8177 [V (r8131.length : Int)] (csz Int), .blk b8127 [v7111], .blk b8128 [v8158]] := ((hS8211.front 1 rfl).front 1 rfl)
  obtain ⟨Z8212, hZ8213, q8214, hS8215⟩ := hF8216.shallow q8207
  replace hS8215 : St _ _ _ _ _ _ [.gs v8158 c8208 (csz api_Node), .gs v8177 [V (r8131.length : Int)] (csz Int), .blk b8127 [v7111], .blk b8128 [v8158]] := hS8215
  obtain ⟨Z8217, hZ8218, q8219, hS8220⟩ := (hS8215.front 0 rfl).freeze q8214
  replace hS8220 : St _ _ _ _ _ _ [.gs v8177 [V (r8131.length : Int)] (csz Int), .blk b8127 [v7111], .blk b8128 [v8158]] := hS8220
  obtain rfl := Option.some.inj hm
  refine ⟨_, _, _, ResL.cell (v := .agg #[v8158]) rfl hS8220 (i := 2) rfl (by kernel_rfl) (ResL.tmp rfl (ResL.nil)), (hS8220.takeN 0), ?_⟩
  exact ⟨v8158, rfl, rfl, q8219⟩
  refine srF r15_4 hS8051 ?_
  intro bs8090 h8091 hlv8093 hS8092
  refine yq 2 [(53, Pt b8047 1), (52, V a3), (12, Pt b8047 0), (10, Pt b7942 0), (5, Pt b7939 0), (1, V a1), (2, V a2), (3, V a3), (4, V a4)] ?_
  have lt8094 : b8047 < bs8090 := hlv8093.1 _ (List.mem_of_getElem? (i := 0) rfl) _ (by simp [Itm.ids])
  refine e_lookB rfl trivial rfl (by show b8047 < _; omega) (same1 (v := V x8039.From) trivial) (o_ldb (v := V x8039.From) hS8092 (i := 0) rfl rfl (by kernel_rfl)) trivial ?_
  rcases ifs ho8088 with ⟨hp8095, ho8088⟩ | ⟨hp8095, ho8088⟩
  refine e_val rfl trivial (o_cmp rfl rfl (c_lss_T hp8095)) ?_
  refine ye 23 [(78, .bool true), (10, Pt b7942 0), (5, Pt b7939 0), (1, V a1), (2, V a2), (3, V a3), (4, V a4)] ?_
  have hS8096 := hS8092.unres
  refine cT 78 rfl ?_
  refine sr r15_5 ?_
  refine r_step rfl trivial (o_ldb (v := .agg #[v7111]) hS8096 (i := 2) rfl rfl (by kernel_rfl)) ?_
  refine r_ex1 rfl trivial (o_stb (vs := [v7111]) (cells' := [v7111]) (L' := [.blk b8047 (K46 v8045 x8039), .blk b7942 [v7111], .blk b7939 [v7111]]) hS8096 (i := 1) rfl rfl rfl rfl (by kernel_rfl) (one_cons (RS.one1 q7110) one_nil) rfl rfl rfl) ?_
  intro h8097 hS8098
  refine xe 1 [(11, V (-1)), (10, Pt b7942 0)] ?_
  refine rt ?_
  refine ⟨rfl, ?_⟩
  obtain rfl := Option.some.inj ho8088
  obtain rfl := Option.some.inj hm
  refine ⟨_, _, _, ResL.cell (v := .agg #[v7111]) rfl hS8098 (i := 1) rfl (by kernel_rfl) (ResL.tmp rfl (ResL.nil)), (hS8098.takeN 0), ?_⟩
  exact ⟨v7111, rfl, rfl, q7110⟩
  refine e_val rfl trivial (o_cmp rfl rfl (c_lss_F hp8095)) ?_
  refine yq 2 [(57, Pt b8047 4), (56, .bool false), (12, Pt b8047 0), (10, Pt b7942 0), (5, Pt b7939 0), (1, V a1), (2, V a2), (3, V a3), (4, V a4)] ?_
  have lt8099 : b8047 < bs8090 := hlv8093.1 _ (List.mem_of_getElem? (i := 0) rfl) _ (by simp [Itm.ids])
  refine e_lookB rfl rfl rfl (by show b8047 < _; omega) (same1 (v := v8045) (RS.sim1 q8046)) (o_ldb (v := v8045) hS8092 (i := 0) rfl rfl (by kernel_rfl)) trivial ?_
  refine e_val rfl rfl (o_len rfl (RS.len q8046) ⟨_, Go.Proofs.Try.underlying44⟩) ?_
  rcases ifs ho8088 with ⟨hp8100, ho8088⟩ | ⟨hp8100, ho8088⟩
  refine e_val rfl rfl (o_cmp rfl rfl (c_gtr_T hp8100)) ?_
  refine yq 3 [(63, Pt b7939 0), (62, V a3), (61, .bool true), (56, .bool false), (12, Pt b8047 0), (10, Pt b7942 0), (5, Pt b7939 0), (1, V a1), (2, V a2), (3, V a3), (4, V a4)] ?_
  have lt8101 : b7939 < bs8090 := hlv8093.1 _ (List.mem_of_getElem? (i := 2) rfl) _ (by simp [Itm.ids])
  refine e_lookB rfl rfl rfl (by show b7939 < _; omega) (same1 (v := v7111) (RS.sim1 q7110)) (o_ldb (v := v7111) hS8092 (i := 2) rfl rfl (by kernel_rfl)) trivial ?_
  refine yq 1 [(65, Pt b8047 4), (64, v7111), (62, V a3), (61, .bool true), (56, .bool false), (12, Pt b8047 0), (10, Pt b7942 0), (5, Pt b7939 0), (1, V a1), (2, V a2), (3, V a3), (4, V a4)] ?_
  have lt8102 : b8047 < bs8090 := hlv8093.1 _ (List.mem_of_getElem? (i := 0) rfl) _ (by simp [Itm.ids])
  refine e_lookB rfl rfl rfl (by show b8047 < _; omega) (same1 (v := v8045) (RS.sim1 q8046)) (o_ldb (v := v8045) hS8092 (i := 0) rfl rfl (by kernel_rfl)) trivial ?_
  refine yq 1 [(67, Pt b8047 4), (66, v8045), (64, v7111), (62, V a3), (61, .bool true), (56, .bool false), (10, Pt b7942 0), (5, Pt b7939 0), (1, V a1), (2, V a2), (3, V a3), (4, V a4)] ?_
  have lt8103 : b8047 < bs8090 := hlv8093.1 _ (List.mem_of_getElem? (i := 0) rfl) _ (by simp [Itm.ids])
  refine e_lookB rfl rfl rfl (by show b8047 < _; omega) (same1 (v := v8045) (RS.sim1 q8046)) (o_ldb (v := v8045) hS8092 (i := 0) rfl rfl (by kernel_rfl)) trivial ?_
  refine e_val rfl rfl (o_len rfl (RS.len q8046) ⟨_, Go.Proofs.Try.underlying44⟩) ?_
  refine yq 1 [(70, V (w64 ((x8039.Kids.length : Int) - 1))), (66, v8045), (64, v7111), (62, V a3), (61, .bool true), (56, .bool false), (10, Pt b7942 0), (5, Pt b7939 0), (1, V a1), (2, V a2), (3, V a3), (4, V a4)] ?_
  obtain ⟨hc8104, ho8088⟩ := chk ho8088
  refine e_val rfl rfl (o_index rfl rfl (by kernel_rfl : slTy _ _ = some (csz Int)) (RS.based q8046 (by omega)) hc8104.1 hc8104.2) ?_
  obtain ⟨x8105, hx8106, ho8088⟩ := obind ho8088
  obtain ⟨cs8107, hc8108, he8109⟩ := RS.elz q8046 (i := w64 ((x8039.Kids.length : Int) - 1)) hx8106
  obtain rfl := rc_Int hc8108
  refine e_lookZ rfl rfl rfl (fun h2 hz => o_lde (w := V x8105) (he8109 h2 hz) rfl (by kernel_rfl)) (hS8092.zin0 (Zle.refl _)) (same1 (v := V x8105) trivial) trivial ?_
  obtain ⟨hc8111, ho8088⟩ := chk ho8088
  refine e_val rfl rfl (o_index rfl rfl (by kernel_rfl : slTy _ _ = some (csz api_Node)) (RS.based q7110 (by omega)) hc8111.1 hc8111.2) ?_
  refine yq 1 [(74, .pointer (some (elemA v7111 x8105 (csz api_Node) 2))), (62, V a3), (61, .bool true), (56, .bool false), (10, Pt b7942 0), (5, Pt b7939 0), (1, V a1), (2, V a2), (3, V a3), (4, V a4)] ?_
  obtain ⟨x8112, hx8113, ho8088⟩ := obind ho8088
  obtain ⟨cs8114, hc8115, he8116⟩ := RS.elz q7110 (i := x8105) hx8113
  obtain ⟨v8118, q8119, rfl⟩ := rc_api_Node hc8115
  refine e_lookZ rfl rfl rfl (fun h2 hz => o_lde (w := V x8112.To) (he8116 h2 hz) rfl (by kernel_rfl)) (hS8092.zin0 (Zle.refl _)) (same1 (v := V x8112.To) trivial) trivial ?_
  rcases ifs ho8088 with ⟨hp8120, ho8088⟩ | ⟨hp8120, ho8088⟩
  refine e_val rfl rfl (o_cmp rfl rfl (c_lss_T hp8120)) ?_
  refine ye 2 [(78, .bool true), (10, Pt b7942 0), (5, Pt b7939 0), (1, V a1), (2, V a2), (3, V a3), (4, V a4)] ?_
  have hS8121 := hS8092.unres
  refine cT 78 rfl ?_
  refine sr r15_5 ?_
  refine r_step rfl trivial (o_ldb (v := .agg #[v7111]) hS8121 (i := 2) rfl rfl (by kernel_rfl)) ?_
  refine r_ex1 rfl trivial (o_stb (vs := [v7111]) (cells' := [v7111]) (L' := [.blk b8047 (K46 v8045 x8039), .blk b7942 [v7111], .blk b7939 [v7111]]) hS8121 (i := 1) rfl rfl rfl rfl (by kernel_rfl) (one_cons (RS.one1 q7110) one_nil) rfl rfl rfl) ?_
  intro h8122 hS8123
  refine xe 1 [(11, V (-1)), (10, Pt b7942 0)] ?_
  refine rt ?_
  refine ⟨rfl, ?_⟩
  obtain rfl := Option.some.inj ho8088
  obtain rfl := Option.some.inj hm
  refine ⟨_, _, _, ResL.cell (v := .agg #[v7111]) rfl hS8123 (i := 1) rfl (by kernel_rfl) (ResL.tmp rfl (ResL.nil)), (hS8123.takeN 0), ?_⟩
  exact ⟨v7111, rfl, rfl, q7110⟩
  refine e_val rfl rfl (o_cmp rfl rfl (c_lss_F hp8120)) ?_
  refine ye 2 [(78, .bool false), (10, Pt b7942 0), (5, Pt b7939 0), (1, V a1), (2, V a2), (3, V a3), (4, V a4)] ?_
  have hS8124 := hS8092.unres
  refine kF 78 rfl ?_
  obtain rfl := Option.some.inj ho8088
  exact ⟨_, b7939, b7942, rfl, rfl, (((hS8124.front 1 rfl).front 2 rfl).takeN 2)⟩
  refine e_val rfl rfl (o_cmp rfl rfl (c_gtr_F hp8100)) ?_
  refine ye 18 [(78, .bool false), (10, Pt b7942 0), (5, Pt b7939 0), (1, V a1), (2, V a2), (3, V a3), (4, V a4)] ?_
  have hS8125 := hS8092.unres
  refine kF 78 rfl ?_
  obtain rfl := Option.some.inj ho8088
  exact ⟨_, b7939, b7942, rfl, rfl, (((hS8125.front 1 rfl).front 2 rfl).takeN 2)⟩

def r21_0 : List COp := [u 1 (.box 29 (t 0)), u 2 (.alloc 27)]
def r21_1 : List COp := [u 3 (.fieldAddr 29 (t 1) 0), u 4 (.load 25 (t 3)), u 5 (.build 27 #[(0, (t 4))]), o (.store 27 (t 2) (t 5))]
def correctorlaw10_Of (F : Nat) (a0 : correctorref10_Tree) : Option arena_Tree :=
  some (⟨a0.Nodes⟩ : arena_Tree)
theorem correctorlaw10_Of_ok (F : Nat) {h : AH} {Z : Zn} {a0 : correctorref10_Tree} {v8597 : Value} (hP : Pre Z h []) (q8596 : RS (α := api_Node) Z v8597 a0.Nodes) {r : arena_Tree} (hm : correctorlaw10_Of F a0 = some r) :
    ∃ v h' Z' A', callI Go.Proofs.Try.prog 21 [.agg #[v8597]] h = some (v, h') ∧ St h (idsL []) Z (0, 0) Z' h' A' ∧ ∃ v8607 : Value, .agg #[v8607] = v ∧ A' = [] ∧ RS (α := api_Node) Z' v8607 r.Nodes := by
  refine fn_intro (A := []) (Q := fun v Z' A' => ∃ v8607 : Value, .agg #[v8607] = v ∧ A' = [] ∧ RS (α := api_Node) Z' v8607 r.Nodes) Go.Proofs.Try.func21 rfl rfl (by kernel_rfl) hP ?_
  intro hs hS
  unfold correctorlaw10_Of at hm
  replace hS : St hs [] Z (0, 0) Z hs [] := hS
  refine sr r21_0 ?_
  refine r_blk rfl trivial (o_box (cs := [v8597]) rfl rfl) hS ?_
  intro b8608 h8609 hS8610
  refine r_blk rfl trivial (o_alloc (cs := [.slice none 0 0]) (by kernel_rfl)) hS8610 ?_
  intro b8611 h8612 hS8613
  refine xf [(2, Pt b8611 0), (1, Pt b8608 0)] ?_
  refine sr r21_1 ?_
  refine xq 1 [(3, Pt b8608 0), (2, Pt b8611 0)] ?_
  refine r_step rfl trivial (o_ldb (v := v8597) hS8613 (i := 1) rfl rfl (by kernel_rfl)) ?_
  refine r_step rfl trivial (o_build (v := .agg #[v8597]) rfl (CA.cons (cs := [v8597]) (RS.cell1 q8596) (CA.nil0)) (by kernel_rfl)) ?_
  refine r_ex1 rfl trivial (o_stb (vs := [v8597]) (cells' := [v8597]) (L' := [.blk b8611 [v8597], .blk b8608 [v8597]]) hS8613 (i := 0) rfl rfl rfl rfl (by kernel_rfl) (one_cons (RS.one1 q8596) one_nil) rfl rfl rfl) ?_
  intro h8614 hS8615
  refine xf [(2, Pt b8611 0)] ?_
  refine rt ?_
  refine ⟨rfl, ?_⟩
  obtain rfl := Option.some.inj hm
  refine ⟨_, _, _, ResL.cell (v := .agg #[v8597]) rfl hS8615 (i := 0) rfl (by kernel_rfl) (ResL.nil), (hS8615.takeN 0), ?_⟩
  exact ⟨v8597, rfl, rfl, q8596⟩

def r34_0 : List COp := [u 6 (.assign (.const (.bool false)))]
def r34_1 : List COp := [u 10 (.move (t 0)), u 11 (.move (t 1)), u 12 (.indexAddr 25 (t 10) (t 11)), u 13 (.fieldAddr 46 (t 12) 1), u 14 (.load 3 (t 13)), u 7 (.assign (t 14))]
def r34_2 : List COp := [u 8 (.assign (ci 0))]
def r34_3 : List COp := [u 15 (.move (t 8)), u 16 (.move (t 0)), u 17 (.move (t 1)), u 18 (.indexAddr 25 (t 16) (t 17)), u 19 (.fieldAddr 46 (t 18) 4), u 20 (.load 44 (t 19)), u 21 (cb .len #[(t 20)] #[44]), u 22 (.binOp .lss 3 (t 15) (t 21) 3)]
def r34_4 : List COp := [u 23 (.move (t 8)), u 24 (.binOp .add 3 (t 23) (ci 1) 3), u 8 (.assign (t 24))]
def r34_5 : List COp := [u 25 (.move (t 0)), u 26 (.move (t 1)), u 27 (.indexAddr 25 (t 25) (t 26)), u 28 (.fieldAddr 46 (t 27) 4), u 29 (.load 44 (t 28)), u 30 (.move (t 8)), u 31 (.indexAddr 44 (t 29) (t 30)), u 32 (.load 3 (t 31)), u 9 (.assign (t 32))]
def r34_6 : List COpF := [uF 33 (.move (t 9)) .pure [], uF 34 (.binOp .leq 3 (t 33) (ci 0) 3) .pure [], uF 35 (.move (t 34)) .pure [], gNF 35 (some 36) (.move (t 9)) .pure [], gNF 35 (some 37) (.move (t 0)) .pure [], gNF 35 (some 38) (cb .len #[(t 37)] #[25]) .pure [], gNF 35 (some 39) (.binOp .geq 3 (t 36) (t 38) 3) .pure [], uF 40 (.pick (t 35) (.const (.bool true)) (t 39)) .pure [], uF 41 (.move (t 40)) .pure [], gNF 41 (some 42) (.move (t 0)) .pure [], gNF 41 (some 43) (.move (t 9)) .pure [], gNF 41 (some 44) (.indexAddr 25 (t 42) (t 43)) .pure [], gNF 41 (some 45) (.fieldAddr 46 (t 44) 3) .pure [], gNF 41 (some 46) (.load 3 (t 45)) .look [], gNF 41 (some 47) (.move (t 1)) .pure [], gNF 41 (some 48) (.binOp .neq 3 (t 46) (t 47) 3) .pure [], uF 49 (.pick (t 41) (.const (.bool true)) (t 48)) .pure [], uF 50 (.move (t 49)) .pure [], gNF 50 (some 51) (.move (t 0)) .pure [], gNF 50 (some 52) (.move (t 9)) .pure [], gNF 50 (some 53) (.indexAddr 25 (t 51) (t 52)) .pure [], gNF 50 (some 54) (.fieldAddr 46 (t 53) 1) .pure [], gNF 50 (some 55) (.load 3 (t 54)) .look [], gNF 50 (some 56) (.move (t 7)) .pure [], gNF 50 (some 57) (.binOp .lss 3 (t 55) (t 56) 3) .pure [], uF 58 (.pick (t 50) (.const (.bool true)) (t 57)) .pure [], uF 59 (.move (t 58)) .pure [], gNF 59 (some 60) (.move (t 0)) .pure [], gNF 59 (some 61) (.move (t 9)) .pure [], gNF 59 (some 62) (.indexAddr 25 (t 60) (t 61)) .pure [], gNF 59 (some 63) (.fieldAddr 46 (t 62) 2) .pure [], gNF 59 (some 64) (.load 3 (t 63)) .look [], gNF 59 (some 65) (.move (t 0)) .pure [], gNF 59 (some 66) (.move (t 1)) .pure [], gNF 59 (some 67) (.indexAddr 25 (t 65) (t 66)) .pure [], gNF 59 (some 68) (.fieldAddr 46 (t 67) 2) .pure [], gNF 59 (some 69) (.load 3 (t 68)) .look [], gNF 59 (some 70) (.binOp .gtr 3 (t 64) (t 69) 3) .pure [], uF 71 (.pick (t 59) (.const (.bool true)) (t 70)) .pure [], uF 72 (.move (t 71)) .pure [], gNF 72 (some 73) (.move (t 0)) .pure [], gNF 72 (some 74) (.move (t 9)) .pure [], gNF 72 (some 75) (.indexAddr 25 (t 73) (t 74)) .pure [], gNF 72 (some 76) (.fieldAddr 46 (t 75) 1) .pure [], gNF 72 (some 77) (.load 3 (t 76)) .look [], gNF 72 (some 78) (.move (t 0)) .pure [], gNF 72 (some 79) (.move (t 9)) .pure [], gNF 72 (some 80) (.indexAddr 25 (t 78) (t 79)) .pure [], gNF 72 (some 81) (.fieldAddr 46 (t 80) 2) .pure [], gNF 72 (some 82) (.load 3 (t 81)) .look [], gNF 72 (some 83) (.binOp .gtr 3 (t 77) (t 82) 3) .pure [], uF 84 (.pick (t 72) (.const (.bool true)) (t 83)) .pure []]
def r34_7 : List COp := [u 6 (.assign (.const (.bool false)))]
def r34_8 : List COp := [u 85 (.move (t 0)), u 86 (.move (t 9)), u 87 (.indexAddr 25 (t 85) (t 86)), u 88 (.fieldAddr 46 (t 87) 2), u 89 (.load 3 (t 88)), u 7 (.assign (t 89))]
def r34_9 : List COp := [u 90 (.move (t 2)), u 91 (.move (t 9)), u 92 (.indexAddr 44 (t 90) (t 91)), u 93 (.load 3 (t 92)), u 94 (.binOp .add 3 (t 93) (ci 1) 3), u 95 (.indexAddr 44 (t 90) (t 91)), o (.store 3 (t 95) (t 94))]
def r34_10 : List COp := [u 6 (.assign (.const (.bool true)))]
def correctorref10_kids_l0 (F : Nat) (a0 : List api_Node) (a1 : Int) (a2 : List Int) : Nat → (List Int) → Int → Int → Option (Sum (List Int) (Bool × (List Int)))
  | 0, _, _, _ => none
  | n + 1, x9994, x9997, x9998 =>
    if 0 ≤ a1 ∧ a1 < (a0.length : Int) then
      (a0[a1.toNat]?).bind fun x10023 =>
      if x9998 < (x10023.Kids.length : Int) then
        if 0 ≤ a1 ∧ a1 < (a0.length : Int) then
          (a0[a1.toNat]?).bind fun x10033 =>
          if 0 ≤ x9998 ∧ x9998 < (x10033.Kids.length : Int) then
            (x10033.Kids[x9998.toNat]?).bind fun x10042 =>
            if x10042 ≤ (0 : Int) then
              some (.inr (false, x9994))
            else
              if (a0.length : Int) ≤ x10042 then
                some (.inr (false, x9994))
              else
                if 0 ≤ x10042 ∧ x10042 < (a0.length : Int) then
                  (a0[x10042.toNat]?).bind fun x10199 =>
                  if x10199.Up = a1 then
                    if 0 ≤ x10042 ∧ x10042 < (a0.length : Int) then
                      (a0[x10042.toNat]?).bind fun x10209 =>
                      if x10209.From < x9997 then
                        some (.inr (false, x9994))
                      else
                        if 0 ≤ x10042 ∧ x10042 < (a0.length : Int) then
                          (a0[x10042.toNat]?).bind fun x10220 =>
                          if 0 ≤ a1 ∧ a1 < (a0.length : Int) then
                            (a0[a1.toNat]?).bind fun x10229 =>
                            if x10229.To < x10220.To then
                              some (.inr (false, x9994))
                            else
                              if 0 ≤ x10042 ∧ x10042 < (a0.length : Int) then
                                (a0[x10042.toNat]?).bind fun x10240 =>
                                if 0 ≤ x10042 ∧ x10042 < (a0.length : Int) then
                                  (a0[x10042.toNat]?).bind fun x10249 =>
                                  if x10249.To < x10240.From then
                                    some (.inr (false, x9994))
                                  else
                                    if 0 ≤ x10042 ∧ x10042 < (a0.length : Int) then
                                      (a0[x10042.toNat]?).bind fun x10261 =>
                                      if 0 ≤ x10042 ∧ x10042 < (x9994.length : Int) then
                                        (x9994[x10042.toNat]?).bind fun x10270 =>
                                        if 0 ≤ x10042 ∧ x10042 < (x9994.length : Int) then
                                          (x9994[x10042.toNat]?).bind fun x10277 =>
                                          correctorref10_kids_l0 F a0 a1 a2 n (x9994.set x10042.toNat (w64 (x10270 + 1))) x10261.To (w64 (x9998 + 1))
                                        else none
                                      else none
                                    else none
                                else none
                              else none
                          else none
                        else none
                    else none
                  else
                    some (.inr (false, x9994))
                else none
          else none
        else none
      else
        some (.inl x9994)
    else none
def correctorref10_kids (F : Nat) (a0 : List api_Node) (a1 : Int) (a2 : List Int) : Option (Bool × (List Int)) :=
  if 0 ≤ a1 ∧ a1 < (a0.length : Int) then
    (a0[a1.toNat]?).bind fun x9399 =>
    ((correctorref10_kids_l0 F a0 a1 a2 F a2 x9399.From 0) : Option (Sum (List Int) (Bool × (List Int)))).bind fun o => match o with
      | .inl x10292 => some (true, x10292)
      | .inr y => some y
  else none
theorem correctorref10_kids_ok (F : Nat) {h : AH} {Z : Zn} {a0 : List api_Node} {a1 : Int} {a2 : List Int} {v8793 : Value} {v8795 : Value} {c8796 : List Value} (hP : Pre Z h [.gs v8795 c8796 (csz Int)]) (q8792 : RS (α := api_Node) Z v8793 a0) (q8794 : RCs (α := Int) Z c8796 a2) {r : Bool × (List Int)} (hm : correctorref10_kids F a0 a1 a2 = some r) :
    ∃ v h' Z' A', callI Go.Proofs.Try.prog 34 [v8793, V a1, v8795] h = some (v, h') ∧ St h (idsL [.gs v8795 c8796 (csz Int)]) Z (0, 0) Z' h' A' ∧ ∃ c9397 : List Value, .bool r.1 = v ∧ A' = [.gs v8795 c9397 (csz Int)] ∧ RCs (α := Int) Z' c9397 r.2 := by
  refine fn_intro (A := [.gs v8795 c8796 (csz Int)]) (Q := fun v Z' A' => ∃ c9397 : List Value, .bool r.1 = v ∧ A' = [.gs v8795 c9397 (csz Int)] ∧ RCs (α := Int) Z' c9397 r.2) Go.Proofs.Try.func34 rfl rfl (by kernel_rfl) hP ?_
  intro hs hS
  unfold correctorref10_kids at hm
  refine sr r34_0 ?_
  refine xe 1 [(0, v8793), (1, V a1), (2, v8795)] ?_
  refine sr r34_1 ?_
  refine xq 2 [(11, V a1), (10, v8793), (0, v8793), (1, V a1), (2, v8795)] ?_
  obtain ⟨hc9398, hm⟩ := chk hm
  refine r_step rfl trivial (o_index rfl rfl (by kernel_rfl : slTy _ _ = some (csz api_Node)) (RS.based q8792 (by omega)) hc9398.1 hc9398.2) ?_
  refine xq 1 [(13, .pointer (some (elemA v8793 a1 (csz api_Node) 1))), (0, v8793), (1, V a1), (2, v8795)] ?_
  obtain ⟨x9399, hx9400, hm⟩ := obind hm
  obtain ⟨cs9401, hc9402, he9403⟩ := RS.elz q8792 (i := a1) hx9400
  obtain ⟨v9405, q9406, rfl⟩ := rc_api_Node hc9402
  refine r_step rfl trivial (o_lde (w := V x9399.From) (he9403 _ (hS.zin0 (Zle.refl _))) rfl (by kernel_rfl)) ?_
  refine xe 1 [(7, V x9399.From), (0, v8793), (1, V a1), (2, v8795)] ?_
  refine sq ?_
  refine sr r34_2 ?_
  refine xe 1 [(8, V 0), (7, V x9399.From), (0, v8793), (1, V a1), (2, v8795)] ?_
  obtain ⟨o9992, ho9991, hm⟩ := obind hm
  refine W_join [] (fun l h => ∃ Z10291 : Zn, ∃ x10292 : List Int, ∃ c10294 : List Value, .inl x10292 = o9992 ∧ RCs (α := Int) Z10291 c10294 x10292 ∧ l = [] ∧ St hs (idsL [.gs v8795 c8796 (csz Int)]) Z (0, 0) Z10291 h [.gs v8795 c10294 (csz Int)]) ?_ ?_
  rintro l h10295 ⟨Z10291, x10292, c10294, rfl, q10293, rfl, hS10296⟩
  try dsimp only at hm
  refine sr r34_10 ?_
  refine xe 1 [(6, .bool true)] ?_
  refine rt ?_
  refine ⟨rfl, ?_⟩
  obtain rfl := Option.some.inj hm
  refine ⟨_, _, _, ResL.tmp rfl (ResL.nil), hS10296, ?_⟩
  exact ⟨c10294, rfl, rfl, q10293⟩
  refine bk 0 ?_
  refine lp [0, 1, 2, 7, 8] (fun n l h => ∃ Z9993 : Zn, ∃ x9994 : List Int, ∃ x9997 : Int, ∃ x9998 : Int, ∃ c9996 : List Value, correctorref10_kids_l0 F a0 a1 a2 n x9994 x9997 x9998 = some o9992 ∧ RCs (α := Int) Z9993 c9996 x9994 ∧ l = [(0, v8793), (1, V a1), (2, v8795), (7, V x9997), (8, V x9998)] ∧ St hs (idsL [.gs v8795 c8796 (csz Int)]) Z (0, 0) Z9993 h [.gs v8795 c9996 (csz Int)]) F ⟨_, a2, x9399.From, 0, c8796, ho9991, q8794, rfl, hS⟩ ?_
  rintro n10001 l h9999 ⟨Z9993, x9994, x9997, x9998, c9996, ho9991, q9995, rfl, hS10000⟩
  rcases n10001 with _ | n10001
  cases (show none = some o9992 from ho9991)
  rw [correctorref10_kids_l0] at ho9991
  refine sq ?_
  refine sr r34_3 ?_
  refine xq 3 [(17, V a1), (16, v8793), (15, V x9998), (0, v8793), (1, V a1), (2, v8795), (7, V x9997), (8, V x9998)] ?_
  obtain ⟨hc10022, ho9991⟩ := chk ho9991
  refine r_step rfl trivial (o_index rfl rfl (by kernel_rfl : slTy _ _ = some (csz api_Node)) (RS.based (q8792.mono hS10000.zle) (by omega)) hc10022.1 hc10022.2) ?_
  refine xq 1 [(19, .pointer (some (elemA v8793 a1 (csz api_Node) 4))), (15, V x9998), (0, v8793), (1, V a1), (2, v8795), (7, V x9997), (8, V x9998)] ?_
  obtain ⟨x10023, hx10024, ho9991⟩ := obind ho9991
  obtain ⟨cs10025, hc10026, he10027⟩ := RS.elz (q8792.mono hS10000.zle) (i := a1) hx10024
  obtain ⟨v10029, q10030, rfl⟩ := rc_api_Node hc10026
  refine r_step rfl trivial (o_lde (w := v10029) (he10027 _ (hS10000.zin0 (Zle.refl _))) rfl (by kernel_rfl)) ?_
  refine r_step rfl trivial (o_len rfl (RS.len q10030) ⟨_, Go.Proofs.Try.underlying44⟩) ?_
  rcases ifs ho9991 with ⟨hp10031, ho9991⟩ | ⟨hp10031, ho9991⟩
  refine r_step rfl trivial (o_cmp rfl rfl (c_lss_T hp10031)) ?_
  refine xf [(22, .bool true), (0, v8793), (1, V a1), (2, v8795), (7, V x9997), (8, V x9998)] ?_
  refine kT 22 rfl ?_
  refine sq ?_
  refine bk 1 ?_
  refine sr r34_5 ?_
  refine xq 2 [(26, V a1), (25, v8793), (0, v8793), (1, V a1), (2, v8795), (7, V x9997), (8, V x9998)] ?_
  obtain ⟨hc10032, ho9991⟩ := chk ho9991
  refine r_step rfl trivial (o_index rfl rfl (by kernel_rfl : slTy _ _ = some (csz api_Node)) (RS.based (q8792.mono hS10000.zle) (by omega)) hc10032.1 hc10032.2) ?_
  refine xq 1 [(28, .pointer (some (elemA v8793 a1 (csz api_Node) 4))), (0, v8793), (1, V a1), (2, v8795), (7, V x9997), (8, V x9998)] ?_
  obtain ⟨x10033, hx10034, ho9991⟩ := obind ho9991
  obtain ⟨cs10035, hc10036, he10037⟩ := RS.elz (q8792.mono hS10000.zle) (i := a1) hx10034
  obtain ⟨v10039, q10040, rfl⟩ := rc_api_Node hc10036
  refine r_step rfl trivial (o_lde (w := v10039) (he10037 _ (hS10000.zin0 (Zle.refl _))) rfl (by kernel_rfl)) ?_
  refine xq 1 [(30, V x9998), (29, v10039), (0, v8793), (1, V a1), (2, v8795), (7, V x9997), (8, V x9998)] ?_
  obtain ⟨hc10041, ho9991⟩ := chk ho9991
  refine r_step rfl trivial (o_index rfl rfl (by kernel_rfl : slTy _ _ = some (csz Int)) (RS.based q10040 (by omega)) hc10041.1 hc10041.2) ?_
  obtain ⟨x10042, hx10043, ho9991⟩ := obind ho9991
  obtain ⟨cs10044, hc10045, he10046⟩ := RS.elz q10040 (i := x9998) hx10043
  obtain rfl := rc_Int hc10045
  refine r_step rfl trivial (o_lde (w := V x10042) (he10046 _ (hS10000.zin0 (Zle.refl _))) rfl (by kernel_rfl)) ?_
  refine xe 1 [(9, V x10042), (0, v8793), (1, V a1), (2, v8795), (7, V x9997), (8, V x9998)] ?_
  refine sq ?_
  refine srF r34_6 hS10000 ?_
  intro bs10190 h10191 hlv10193 hS10192
  refine yq 1 [(33, V x10042), (9, V x10042), (0, v8793), (1, V a1), (2, v8795), (7, V x9997), (8, V x9998)] ?_
  rcases ifs ho9991 with ⟨hp10194, ho9991⟩ | ⟨hp10194, ho9991⟩
  refine e_val rfl trivial (o_cmp rfl rfl (c_leq_T hp10194)) ?_
  refine ye 50 [(84, .bool true), (9, V x10042), (0, v8793), (1, V a1), (2, v8795), (8, V x9998)] ?_
  have hS10195 := hS10192.unres
  refine cT 84 rfl ?_
  refine sr r34_7 ?_
  refine xe 1 [(6, .bool false)] ?_
  refine rt ?_
  refine blkX_ret ?_
  refine blkX_ret ?_
  refine ⟨rfl, ?_⟩
  obtain rfl := Option.some.inj ho9991
  obtain rfl := Option.some.inj hm
  refine ⟨_, _, _, ResL.tmp rfl (ResL.nil), hS10195, ?_⟩
  exact ⟨c9996, rfl, rfl, q9995⟩
  refine e_val rfl trivial (o_cmp rfl rfl (c_leq_F hp10194)) ?_
  refine yq 3 [(37, v8793), (36, V x10042), (35, .bool false), (9, V x10042), (0, v8793), (1, V a1), (2, v8795), (7, V x9997), (8, V x9998)] ?_
  refine e_val rfl rfl (o_len rfl (RS.len (q8792.mono hS10000.zle)) ⟨_, Go.Proofs.Try.underlying25⟩) ?_
  rcases ifs ho9991 with ⟨hp10196, ho9991⟩ | ⟨hp10196, ho9991⟩
  refine e_val rfl rfl (o_cmp rfl rfl (c_geq_T hp10196)) ?_
  refine ye 45 [(84, .bool true), (9, V x10042), (0, v8793), (1, V a1), (2, v8795), (8, V x9998)] ?_
  have hS10197 := hS10192.unres
  refine cT 84 rfl ?_
  refine sr r34_7 ?_
  refine xe 1 [(6, .bool false)] ?_
  refine rt ?_
  refine blkX_ret ?_
  refine blkX_ret ?_
  refine ⟨rfl, ?_⟩
  obtain rfl := Option.some.inj ho9991
  obtain rfl := Option.some.inj hm
  refine ⟨_, _, _, ResL.tmp rfl (ResL.nil), hS10197, ?_⟩
  exact ⟨c9996, rfl, rfl, q9995⟩
  refine e_val rfl rfl (o_cmp rfl rfl (c_geq_F hp10196)) ?_
  refine yq 4 [(43, V x10042), (42, v8793), (41, .bool false), (9, V x10042), (0, v8793), (1, V a1), (2, v8795), (7, V x9997), (8, V x9998)] ?_
  obtain ⟨hc10198, ho9991⟩ := chk ho9991
  refine e_val rfl rfl (o_index rfl rfl (by kernel_rfl : slTy _ _ = some (csz api_Node)) (RS.based (q8792.mono hS10000.zle) (by omega)) hc10198.1 hc10198.2) ?_
  refine yq 1 [(45, .pointer (some (elemA v8793 x10042 (csz api_Node) 3))), (41, .bool false), (9, V x10042), (0, v8793), (1, V a1), (2, v8795), (7, V x9997), (8, V x9998)] ?_
  obtain ⟨x10199, hx10200, ho9991⟩ := obind ho9991
  obtain ⟨cs10201, hc10202, he10203⟩ := RS.elz (q8792.mono hS10000.zle) (i := x10042) hx10200
  obtain ⟨v10205, q10206, rfl⟩ := rc_api_Node hc10202
  refine e_lookZ rfl rfl rfl (fun h2 hz => o_lde (w := V x10199.Up) (he10203 h2 hz) rfl (by kernel_rfl)) (hS10192.zin0 (Zle.refl _)) (same1 (v := V x10199.Up) trivial) trivial ?_
  refine yq 1 [(47, V a1), (46, V x10199.Up), (41, .bool false), (9, V x10042), (0, v8793), (1, V a1), (2, v8795), (7, V x9997), (8, V x9998)] ?_
  rcases ifs ho9991 with ⟨hp10207, ho9991⟩ | ⟨hp10207, ho9991⟩
  refine e_val rfl rfl (o_cmp rfl rfl (c_neq_F hp10207)) ?_
  refine yq 4 [(52, V x10042), (51, v8793), (50, .bool false), (9, V x10042), (0, v8793), (1, V a1), (2, v8795), (7, V x9997), (8, V x9998)] ?_
  obtain ⟨hc10208, ho9991⟩ := chk ho9991
  refine e_val rfl rfl (o_index rfl rfl (by kernel_rfl : slTy _ _ = some (csz api_Node)) (RS.based (q8792.mono hS10000.zle) (by omega)) hc10208.1 hc10208.2) ?_
  refine yq 1 [(54, .pointer (some (elemA v8793 x10042 (csz api_Node) 1))), (50, .bool false), (9, V x10042), (0, v8793), (1, V a1), (2, v8795), (7, V x9997), (8, V x9998)] ?_
  obtain ⟨x10209, hx10210, ho9991⟩ := obind ho9991
  obtain ⟨cs10211, hc10212, he10213⟩ := RS.elz (q8792.mono hS10000.zle) (i := x10042) hx10210
  obtain ⟨v10215, q10216, rfl⟩ := rc_api_Node hc10212
  refine e_lookZ rfl rfl rfl (fun h2 hz => o_lde (w := V x10209.From) (he10213 h2 hz) rfl (by kernel_rfl)) (hS10192.zin0 (Zle.refl _)) (same1 (v := V x10209.From) trivial) trivial ?_
  refine yq 1 [(56, V x9997), (55, V x10209.From), (50, .bool false), (9, V x10042), (0, v8793), (1, V a1), (2, v8795), (8, V x9998)] ?_
  rcases ifs ho9991 with ⟨hp10217, ho9991⟩ | ⟨hp10217, ho9991⟩
  refine e_val rfl rfl (o_cmp rfl rfl (c_lss_T hp10217)) ?_
  refine ye 27 [(84, .bool true), (9, V x10042), (0, v8793), (1, V a1), (2, v8795), (8, V x9998)] ?_
  have hS10218 := hS10192.unres
  refine cT 84 rfl ?_
  refine sr r34_7 ?_
  refine xe 1 [(6, .bool false)] ?_
  refine rt ?_
  refine blkX_ret ?_
  refine blkX_ret ?_
  refine ⟨rfl, ?_⟩
  obtain rfl := Option.some.inj ho9991
  obtain rfl := Option.some.inj hm
  refine ⟨_, _, _, ResL.tmp rfl (ResL.nil), hS10218, ?_⟩
  exact ⟨c9996, rfl, rfl, q9995⟩
  refine e_val rfl rfl (o_cmp rfl rfl (c_lss_F hp10217)) ?_
  refine yq 4 [(61, V x10042), (60, v8793), (59, .bool false), (9, V x10042), (0, v8793), (1, V a1), (2, v8795), (8, V x9998)] ?_
  obtain ⟨hc10219, ho9991⟩ := chk ho9991
  refine e_val rfl rfl (o_index rfl rfl (by kernel_rfl : slTy _ _ = some (csz api_Node)) (RS.based (q8792.mono hS10000.zle) (by omega)) hc10219.1 hc10219.2) ?_
  refine yq 1 [(63, .pointer (some (elemA v8793 x10042 (csz api_Node) 2))), (59, .bool false), (9, V x10042), (0, v8793), (1, V a1), (2, v8795), (8, V x9998)] ?_
  obtain ⟨x10220, hx10221, ho9991⟩ := obind ho9991
  obtain ⟨cs10222, hc10223, he10224⟩ := RS.elz (q8792.mono hS10000.zle) (i := x10042) hx10221
  obtain ⟨v10226, q10227, rfl⟩ := rc_api_Node hc10223
  refine e_lookZ rfl rfl rfl (fun h2 hz => o_lde (w := V x10220.To) (he10224 h2 hz) rfl (by kernel_rfl)) (hS10192.zin0 (Zle.refl _)) (same1 (v := V x10220.To) trivial) trivial ?_
  refine yq 2 [(66, V a1), (65, v8793), (64, V x10220.To), (59, .bool false), (9, V x10042), (0, v8793), (1, V a1), (2, v8795), (8, V x9998)] ?_
  obtain ⟨hc10228, ho9991⟩ := chk ho9991
  refine e_val rfl rfl (o_index rfl rfl (by kernel_rfl : slTy _ _ = some (csz api_Node)) (RS.based (q8792.mono hS10000.zle) (by omega)) hc10228.1 hc10228.2) ?_
  refine yq 1 [(68, .pointer (some (elemA v8793 a1 (csz api_Node) 2))), (64, V x10220.To), (59, .bool false), (9, V x10042), (0, v8793), (1, V a1), (2, v8795), (8, V x9998)] ?_
  obtain ⟨x10229, hx10230, ho9991⟩ := obind ho9991
  obtain ⟨cs10231, hc10232, he10233⟩ := RS.elz (q8792.mono hS10000.zle) (i := a1) hx10230
  obtain ⟨v10235, q10236, rfl⟩ := rc_api_Node hc10232
  refine e_lookZ rfl rfl rfl (fun h2 hz => o_lde (w := V x10229.To) (he10233 h2 hz) rfl (by kernel_rfl)) (hS10192.zin0 (Zle.refl _)) (same1 (v := V x10229.To) trivial) trivial ?_
  rcases ifs ho9991 with ⟨hp10237, ho9991⟩ | ⟨hp10237, ho9991⟩
  refine e_val rfl rfl (o_cmp rfl rfl (c_gtr_T hp10237)) ?_
  refine ye 14 [(84, .bool true), (9, V x10042), (0, v8793), (1, V a1), (2, v8795), (8, V x9998)] ?_
  have hS10238 := hS10192.unres
  refine cT 84 rfl ?_
  refine sr r34_7 ?_
  refine xe 1 [(6, .bool false)] ?_
  refine rt ?_
  refine blkX_ret ?_
  refine blkX_ret ?_
  refine ⟨rfl, ?_⟩
  obtain rfl := Option.some.inj ho9991
  obtain rfl := Option.some.inj hm
  refine ⟨_, _, _, ResL.tmp rfl (ResL.nil), hS10238, ?_⟩
  exact ⟨c9996, rfl, rfl, q9995⟩
  refine e_val rfl rfl (o_cmp rfl rfl (c_gtr_F hp10237)) ?_
  refine yq 4 [(74, V x10042), (73, v8793), (72, .bool false), (9, V x10042), (0, v8793), (1, V a1), (2, v8795), (8, V x9998)] ?_
  obtain ⟨hc10239, ho9991⟩ := chk ho9991
  refine e_val rfl rfl (o_index rfl rfl (by kernel_rfl : slTy _ _ = some (csz api_Node)) (RS.based (q8792.mono hS10000.zle) (by omega)) hc10239.1 hc10239.2) ?_
  refine yq 1 [(76, .pointer (some (elemA v8793 x10042 (csz api_Node) 1))), (72, .bool false), (9, V x10042), (0, v8793), (1, V a1), (2, v8795), (8, V x9998)] ?_
  obtain ⟨x10240, hx10241, ho9991⟩ := obind ho9991
  obtain ⟨cs10242, hc10243, he10244⟩ := RS.elz (q8792.mono hS10000.zle) (i := x10042) hx10241
  obtain ⟨v10246, q10247, rfl⟩ := rc_api_Node hc10243
  refine e_lookZ rfl rfl rfl (fun h2 hz => o_lde (w := V x10240.From) (he10244 h2 hz) rfl (by kernel_rfl)) (hS10192.zin0 (Zle.refl _)) (same1 (v := V x10240.From) trivial) trivial ?_
  refine yq 2 [(79, V x10042), (78, v8793), (77, V x10240.From), (72, .bool false), (9, V x10042), (0, v8793), (1, V a1), (2, v8795), (8, V x9998)] ?_
  obtain ⟨hc10248, ho9991⟩ := chk ho9991
  refine e_val rfl rfl (o_index rfl rfl (by kernel_rfl : slTy _ _ = some (csz api_Node)) (RS.based (q8792.mono hS10000.zle) (by omega)) hc10248.1 hc10248.2) ?_
  refine yq 1 [(81, .pointer (some (elemA v8793 x10042 (csz api_Node) 2))), (77, V x10240.From), (72, .bool false), (9, V x10042), (0, v8793), (1, V a1), (2, v8795), (8, V x9998)] ?_
  obtain ⟨x10249, hx10250, ho9991⟩ := obind ho9991
  obtain ⟨cs10251, hc10252, he10253⟩ := RS.elz (q8792.mono hS10000.zle) (i := x10042) hx10250
  obtain ⟨v10255, q10256, rfl⟩ := rc_api_Node hc10252
  refine e_lookZ rfl rfl rfl (fun h2 hz => o_lde (w := V x10249.To) (he10253 h2 hz) rfl (by kernel_rfl)) (hS10192.zin0 (Zle.refl _)) (same1 (v := V x10249.To) trivial) trivial ?_
  rcases ifs ho9991 with ⟨hp10257, ho9991⟩ | ⟨hp10257, ho9991⟩
  refine e_val rfl rfl (o_cmp rfl rfl (c_gtr_T hp10257)) ?_
  refine ye 1 [(84, .bool true), (9, V x10042), (0, v8793), (1, V a1), (2, v8795), (8, V x9998)] ?_
  have hS10258 := hS10192.unres
  refine cT 84 rfl ?_
  refine sr r34_7 ?_
  refine xe 1 [(6, .bool false)] ?_
  refine rt ?_
  refine blkX_ret ?_
  refine blkX_ret ?_
  refine ⟨rfl, ?_⟩
  obtain rfl := Option.some.inj ho9991
  obtain rfl := Option.some.inj hm
  refine ⟨_, _, _, ResL.tmp rfl (ResL.nil), hS10258, ?_⟩
  exact ⟨c9996, rfl, rfl, q9995⟩
  refine e_val rfl rfl (o_cmp rfl rfl (c_gtr_F hp10257)) ?_
  refine ye 1 [(84, .bool false), (9, V x10042), (0, v8793), (1, V a1), (2, v8795), (8, V x9998)] ?_
  have hS10259 := hS10192.unres
  refine kF 84 rfl ?_
  refine sr r34_8 ?_
  refine xq 2 [(86, V x10042), (85, v8793), (9, V x10042), (0, v8793), (1, V a1), (2, v8795), (8, V x9998)] ?_
  obtain ⟨hc10260, ho9991⟩ := chk ho9991
  refine r_step rfl trivial (o_index rfl rfl (by kernel_rfl : slTy _ _ = some (csz api_Node)) (RS.based (q8792.mono hS10000.zle) (by omega)) hc10260.1 hc10260.2) ?_
  refine xq 1 [(88, .pointer (some (elemA v8793 x10042 (csz api_Node) 2))), (9, V x10042), (0, v8793), (1, V a1), (2, v8795), (8, V x9998)] ?_
  obtain ⟨x10261, hx10262, ho9991⟩ := obind ho9991
  obtain ⟨cs10263, hc10264, he10265⟩ := RS.elz (q8792.mono hS10000.zle) (i := x10042) hx10262
  obtain ⟨v10267, q10268, rfl⟩ := rc_api_Node hc10264
  refine r_step rfl trivial (o_lde (w := V x10261.To) (he10265 _ (hS10259.zin0 (Zle.refl _))) rfl (by kernel_rfl)) ?_
  refine xe 1 [(7, V x10261.To), (9, V x10042), (0, v8793), (1, V a1), (2, v8795), (8, V x9998)] ?_
  refine rg r34_9 ?_
  refine xq 2 [(91, V x10042), (90, v8795), (7, V x10261.To), (0, v8793), (1, V a1), (2, v8795), (8, V x9998)] ?_
  obtain ⟨hc10269, ho9991⟩ := chk ho9991
  refine r_step rfl trivial (o_index rfl rfl (by kernel_rfl : slTy _ _ = some (csz Int)) (hS10259.gbased (j := 0) rfl q9995 (by omega)) hc10269.1 hc10269.2) ?_
  obtain ⟨x10270, hx10271, ho9991⟩ := obind ho9991
  obtain ⟨cs10272, hc10273, he10274, ht10275⟩ := hS10259.gel (j := 0) rfl q9995 (i := x10042) hx10271
  obtain rfl := rc_Int hc10273
  refine r_step rfl trivial (o_lde (w := V x10270) he10274 rfl (by kernel_rfl)) ?_
  refine xq 1 [(94, V (w64 (x10270 + 1))), (91, V x10042), (90, v8795), (7, V x10261.To), (0, v8793), (1, V a1), (2, v8795), (8, V x9998)] ?_
  obtain ⟨hc10276, ho9991⟩ := chk ho9991
  refine r_step rfl trivial (o_index rfl rfl (by kernel_rfl : slTy _ _ = some (csz Int)) (hS10259.gbased (j := 0) rfl q9995 (by omega)) hc10276.1 hc10276.2) ?_
  obtain ⟨x10277, hx10278, ho9991⟩ := obind ho9991
  obtain ⟨cs10279, hc10280, he10281, ht10282⟩ := hS10259.gel (j := 0) rfl q9995 (i := x10042) hx10278
  obtain rfl := rc_Int hc10280
  refine r_ex2 rfl trivial (o_ste (u' := w64 (x10270 + 1)) (vs := [V (w64 (x10270 + 1))]) (cs' := [V (w64 (x10270 + 1))]) hS10259 (m := 0) rfl q9995 hx10278 ht10282 rfl rfl rfl (by kernel_rfl) rfl rfl rfl rfl) ?_
  rintro h10283 c10284 ⟨q10286, hS10285⟩
  replace hS10285 : St _ _ _ _ _ _ [.gs v8795 c10284 (csz Int)] := hS10285
  refine xf [(7, V x10261.To), (0, v8793), (1, V a1), (2, v8795), (8, V x9998)] ?_
  refine rg r34_4 ?_
  refine xe 3 [(8, V (w64 (x9998 + 1))), (7, V x10261.To), (0, v8793), (1, V a1), (2, v8795)] ?_
  exact ⟨n10001, Nat.lt_succ_self _, ⟨_, x9994.set x10042.toNat (w64 (x10270 + 1)), x10261.To, w64 (x9998 + 1), c10284, ho9991, q10286, rfl, hS10285⟩⟩
  refine e_val rfl rfl (o_cmp rfl rfl (c_neq_T hp10207)) ?_
  refine ye 36 [(84, .bool true), (9, V x10042), (0, v8793), (1, V a1), (2, v8795), (8, V x9998)] ?_
  have hS10287 := hS10192.unres
  refine cT 84 rfl ?_
  refine sr r34_7 ?_
  refine xe 1 [(6, .bool false)] ?_
  refine rt ?_
  refine blkX_ret ?_
  refine blkX_ret ?_
  refine ⟨rfl, ?_⟩
  obtain rfl := Option.some.inj ho9991
  obtain rfl := Option.some.inj hm
  refine ⟨_, _, _, ResL.tmp rfl (ResL.nil), hS10287, ?_⟩
  exact ⟨c9996, rfl, rfl, q9995⟩
  refine r_step rfl trivial (o_cmp rfl rfl (c_lss_F hp10031)) ?_
  refine xf [(22, .bool false), (0, v8793), (1, V a1), (2, v8795), (7, V x9997), (8, V x9998)] ?_
  refine cF 22 rfl ?_
  refine xt 0 ?_
  refine blkX_hit ?_
  obtain rfl := Option.some.inj ho9991
  exact ⟨_, x9994, c9996, rfl, q9995, rfl, hS10000⟩

def r22_0 : List COp := [u 2 (.box 29 (t 0)), u 4 (.assign (.const (.bool false)))]
def r22_1 : List COp := [u 9 (.fieldAddr 29 (t 2) 0), u 10 (.load 25 (t 9)), u 5 (.assign (t 10))]
def r22_2 : List COp := [u 11 (.move (t 5)), u 12 (cb .len #[(t 11)] #[25]), u 13 (.binOp .eql 3 (t 12) (ci 0) 3), u 14 (.move (t 13)), gN 14 (some 15) (.move (t 5)), gN 14 (some 16) (.indexAddr 25 (t 15) (ci 0)), gN 14 (some 17) (.fieldAddr 46 (t 16) 0), gN 14 (some 18) (.load 3 (t 17)), gN 14 (some 19) (.binOp .neq 3 (t 18) (ci 1) 3), u 20 (.pick (t 14) (.const (.bool true)) (t 19)), u 21 (.move (t 20)), gN 21 (some 22) (.move (t 5)), gN 21 (some 23) (.indexAddr 25 (t 22) (ci 0)), gN 21 (some 24) (.fieldAddr 46 (t 23) 1), gN 21 (some 25) (.load 3 (t 24)), gN 21 (some 26) (.binOp .neq 3 (t 25) (ci 0) 3), u 27 (.pick (t 21) (.const (.bool true)) (t 26)), u 28 (.move (t 27)), gN 28 (some 29) (.move (t 5)), gN 28 (some 30) (.indexAddr 25 (t 29) (ci 0)), gN 28 (some 31) (.fieldAddr 46 (t 30) 2), gN 28 (some 32) (.load 3 (t 31)), gN 28 (some 33) (.move (t 1)), gN 28 (some 34) (.binOp .neq 3 (t 32) (t 33) 3), u 35 (.pick (t 28) (.const (.bool true)) (t 34)), u 36 (.move (t 35)), gN 36 (some 37) (.move (t 5)), gN 36 (some 38) (.indexAddr 25 (t 37) (ci 0)), gN 36 (some 39) (.fieldAddr 46 (t 38) 3), gN 36 (some 40) (.load 3 (t 39)), gN 36 (some 41) (.binOp .neq 3 (t 40) (ci (-1)) 3), u 42 (.pick (t 36) (.const (.bool true)) (t 41)), u 43 (.move (t 42)), gN 43 (some 44) (.move (t 1)), gN 43 (some 45) (.binOp .lss 3 (t 44) (ci 0) 3), u 46 (.pick (t 43) (.const (.bool true)) (t 45))]
def r22_3 : List COp := [u 4 (.assign (.const (.bool false)))]
def r22_4 : List COp := [u 47 (.move (t 5)), u 48 (cb .len #[(t 47)] #[25]), u 49 (.makeSlice 44 (t 48) (t 48)), u 6 (.assign (t 49))]
def r22_5 : List COp := [u 7 (.assign (ci 0))]
def r22_6 : List COp := [u 50 (.move (t 7)), u 51 (.move (t 5)), u 52 (cb .len #[(t 51)] #[25]), u 53 (.binOp .lss 3 (t 50) (t 52) 3)]
def r22_7 : List COp := [u 54 (.move (t 7)), u 55 (.binOp .add 3 (t 54) (ci 1) 3), u 7 (.assign (t 55))]
def r22_8 : List COp := [u 56 (.move (t 7)), u 57 (.binOp .gtr 3 (t 56) (ci 0) 3), u 58 (.move (t 57)), gT 58 (some 59) (.move (t 5)), gT 58 (some 60) (.move (t 7)), gT 58 (some 61) (.indexAddr 25 (t 59) (t 60)), gT 58 (some 62) (.fieldAddr 46 (t 61) 3), gT 58 (some 63) (.load 3 (t 62)), gT 58 (some 64) (.binOp .lss 3 (t 63) (ci 0) 3), gT 58 (some 65) (.move (t 64)), gN 65 (some 66) (.move (t 5)), gN 65 (some 67) (.move (t 7)), gN 65 (some 68) (.indexAddr 25 (t 66) (t 67)), gN 65 (some 69) (.fieldAddr 46 (t 68) 3), gN 65 (some 70) (.load 3 (t 69)), gN 65 (some 71) (.move (t 7)), gN 65 (some 72) (.binOp .geq 3 (t 70) (t 71) 3), gT 58 (some 73) (.pick (t 65) (.const (.bool true)) (t 72)), u 74 (.pick (t 58) (t 73) (.const (.bool false))), u 75 (.move (t 74)), gN 75 (some 76) (.move (t 5)), gN 75 (some 77) (.move (t 7)), gN 75 (some 78) (.move (t 6)), gN 75 (some 79) (cf 34 #[(t 76), (t 77), (t 78)] #[25, 3, 44]), gN 75 (some 80) (.unOp .not 4 (t 79)), u 81 (.pick (t 75) (.const (.bool true)) (t 80))]
def r22_9 : List COp := [u 4 (.assign (.const (.bool false)))]
def r22_10 : List COp := [u 8 (.assign (ci 1))]
def r22_11 : List COp := [u 82 (.move (t 8)), u 83 (.move (t 5)), u 84 (cb .len #[(t 83)] #[25]), u 85 (.binOp .lss 3 (t 82) (t 84) 3)]
def r22_12 : List COp := [u 86 (.move (t 8)), u 87 (.binOp .add 3 (t 86) (ci 1) 3), u 8 (.assign (t 87))]
def r22_13 : List COp := [u 88 (.move (t 6)), u 89 (.move (t 8)), u 90 (.indexAddr 44 (t 88) (t 89)), u 91 (.load 3 (t 90)), u 92 (.binOp .neq 3 (t 91) (ci 1) 3)]
def r22_14 : List COp := [u 4 (.assign (.const (.bool false)))]
def r22_15 : List COp := [u 4 (.assign (.const (.bool true)))]
def correctorref10_Check_l0 (F : Nat) (a0 : correctorref10_Tree) (a1 : Int) : Nat → (List Int) → Int → Option (Sum (List Int) Bool)
  | 0, _, _ => none
  | n + 1, x10927, x10931 =>
    if x10931 < (a0.Nodes.length : Int) then
      ((if (0 : Int) < x10931 then
          if 0 ≤ x10931 ∧ x10931 < (a0.Nodes.length : Int) then
            (a0.Nodes[x10931.toNat]?).bind fun x10991 =>
            if x10991.Up < (0 : Int) then
              some (.inr false)
            else
              if 0 ≤ x10931 ∧ x10931 < (a0.Nodes.length : Int) then
                (a0.Nodes[x10931.toNat]?).bind fun x11001 =>
                if x10931 ≤ x11001.Up then
                  some (.inr false)
                else
                  (correctorref10_kids F a0.Nodes x10931 x10927).bind fun r11010 =>
                  if r11010.1 = true then
                    some (.inl r11010.2)
                  else
                    some (.inr false)
              else none
          else none
        else
          (correctorref10_kids F a0.Nodes x10931 x10927).bind fun r11024 =>
          if r11024.1 = true then
            some (.inl r11024.2)
          else
            some (.inr false)) : Option (Sum (List Int) Bool)).bind fun o => match o with
        | .inl x11039 => correctorref10_Check_l0 F a0 a1 n x11039 (w64 (x10931 + 1))
        | .inr y => some (.inr y)
    else
      some (.inl x10927)
def correctorref10_Check_l1 (F : Nat) (a0 : correctorref10_Tree) (a1 : Int) : Nat → (List Int) → Int → Option (Sum Unit Bool)
  | 0, _, _ => none
  | n + 1, x11116, x11120 =>
    if x11120 < (a0.Nodes.length : Int) then
      if 0 ≤ x11120 ∧ x11120 < (x11116.length : Int) then
        (x11116[x11120.toNat]?).bind fun x11136 =>
        if x11136 = (1 : Int) then
          correctorref10_Check_l1 F a0 a1 n x11116 (w64 (x11120 + 1))
        else
          some (.inr false)
      else none
    else
      some (.inl ())
def correctorref10_Check (F : Nat) (a0 : correctorref10_Tree) (a1 : Int) : Option Bool :=
  if (a0.Nodes.length : Int) = (0 : Int) then
    some false
  else
    if 0 ≤ (0 : Int) ∧ (0 : Int) < (a0.Nodes.length : Int) then
      (a0.Nodes[(0 : Int).toNat]?).bind fun x10659 =>
      if x10659.Kind = (1 : Int) then
        if 0 ≤ (0 : Int) ∧ (0 : Int) < (a0.Nodes.length : Int) then
          (a0.Nodes[(0 : Int).toNat]?).bind fun x10669 =>
          if x10669.From = (0 : Int) then
            if 0 ≤ (0 : Int) ∧ (0 : Int) < (a0.Nodes.length : Int) then
              (a0.Nodes[(0 : Int).toNat]?).bind fun x10679 =>
              if x10679.To = a1 then
                if 0 ≤ (0 : Int) ∧ (0 : Int) < (a0.Nodes.length : Int) then
                  (a0.Nodes[(0 : Int).toNat]?).bind fun x10689 =>
                  if x10689.Up = (-1 : Int) then
                    if a1 < (0 : Int) then
                      some false
                    else
                      if 0 ≤ (a0.Nodes.length : Int) ∧ (a0.Nodes.length : Int) ≤ 17592186044416 then
                        ((correctorref10_Check_l0 F a0 a1 F (List.replicate (a0.Nodes.length : Int).toNat 0) 0) : Option (Sum (List Int) Bool)).bind fun o => match o with
                          | .inl x11054 => ((correctorref10_Check_l1 F a0 a1 F x11054 1) : Option (Sum Unit Bool)).bind fun o => match o with
                            | .inl () => some true
                            | .inr y => some y
                          | .inr y => some y
                      else none
                  else
                    some false
                else none
              else
                some false
            else none
          else
            some false
        else none
      else
        some false
    else none
theorem correctorref10_Check_ok (F : Nat) {h : AH} {Z : Zn} {a0 : correctorref10_Tree} {a1 : Int} {v8644 : Value} (hI : Inv Z h) (q8643 : RS (α := api_Node) Z v8644 a0.Nodes) {r : Bool} (hm : correctorref10_Check F a0 a1 = some r) :
    ∃ v h', callI Go.Proofs.Try.prog 22 [.agg #[v8644], V a1] h = some (v, h') ∧ St h [] Z (0, 0) Z h' [] ∧ v = .bool r := by
  refine fn_plain (Q := fun v => v = .bool r) Go.Proofs.Try.func22 rfl rfl hI ?_
  intro hs hS
  unfold correctorref10_Check at hm
  refine sr r22_0 ?_
  refine r_blk rfl trivial (o_box (cs := [v8644]) rfl rfl) hS ?_
  intro b10570 h10571 hS10572
  refine xe 1 [(2, Pt b10570 0), (1, V a1)] ?_
  refine sr r22_1 ?_
  refine xq 1 [(9, Pt b10570 0), (1, V a1)] ?_
  refine r_step rfl trivial (o_ldb (v := v8644) hS10572 (i := 0) rfl rfl (by kernel_rfl)) ?_
  refine xe 1 [(5, v8644), (1, V a1)] ?_
  refine sq ?_
  refine sr r22_2 ?_
  refine xq 1 [(11, v8644), (5, v8644), (1, V a1)] ?_
  refine r_step rfl trivial (o_len rfl (RS.len q8643) ⟨_, Go.Proofs.Try.underlying25⟩) ?_
  rcases ifs hm with ⟨hp10657, hm⟩ | ⟨hp10657, hm⟩
  refine r_step rfl trivial (o_cmp rfl rfl (c_eql_T hp10657)) ?_
  refine xe 33 [(46, .bool true), (5, v8644)] ?_
  refine cT 46 rfl ?_
  refine sr r22_3 ?_
  refine xe 1 [(4, .bool false)] ?_
  refine rt ?_
  refine ⟨rfl, ?_⟩
  obtain rfl := Option.some.inj hm
  refine ⟨_, _, _, ResL.tmp rfl (ResL.nil), hS10572, ?_⟩
  exact rfl
  refine r_step rfl trivial (o_cmp rfl rfl (c_eql_F hp10657)) ?_
  refine xq 2 [(15, v8644), (14, .bool false), (5, v8644), (1, V a1)] ?_
  obtain ⟨hc10658, hm⟩ := chk hm
  refine r_step rfl rfl (o_index rfl rfl (by kernel_rfl : slTy _ _ = some (csz api_Node)) (RS.based q8643 (by omega)) hc10658.1 hc10658.2) ?_
  refine xq 1 [(17, .pointer (some (elemA v8644 0 (csz api_Node) 0))), (14, .bool false), (5, v8644), (1, V a1)] ?_
  obtain ⟨x10659, hx10660, hm⟩ := obind hm
  obtain ⟨cs10661, hc10662, he10663⟩ := RS.elz q8643 (i := 0) hx10660
  obtain ⟨v10665, q10666, rfl⟩ := rc_api_Node hc10662
  refine r_step rfl rfl (o_lde (w := V x10659.Kind) (he10663 _ (hS10572.zin0 (Zle.refl _))) rfl (by kernel_rfl)) ?_
  rcases ifs hm with ⟨hp10667, hm⟩ | ⟨hp10667, hm⟩
  refine r_step rfl rfl (o_cmp rfl rfl (c_neq_F hp10667)) ?_
  refine xq 3 [(22, v8644), (21, .bool false), (5, v8644), (1, V a1)] ?_
  obtain ⟨hc10668, hm⟩ := chk hm
  refine r_step rfl rfl (o_index rfl rfl (by kernel_rfl : slTy _ _ = some (csz api_Node)) (RS.based q8643 (by omega)) hc10668.1 hc10668.2) ?_
  refine xq 1 [(24, .pointer (some (elemA v8644 0 (csz api_Node) 1))), (21, .bool false), (5, v8644), (1, V a1)] ?_
  obtain ⟨x10669, hx10670, hm⟩ := obind hm
  obtain ⟨cs10671, hc10672, he10673⟩ := RS.elz q8643 (i := 0) hx10670
  obtain ⟨v10675, q10676, rfl⟩ := rc_api_Node hc10672
  refine r_step rfl rfl (o_lde (w := V x10669.From) (he10673 _ (hS10572.zin0 (Zle.refl _))) rfl (by kernel_rfl)) ?_
  rcases ifs hm with ⟨hp10677, hm⟩ | ⟨hp10677, hm⟩
  refine r_step rfl rfl (o_cmp rfl rfl (c_neq_F hp10677)) ?_
  refine xq 3 [(29, v8644), (28, .bool false), (5, v8644), (1, V a1)] ?_
  obtain ⟨hc10678, hm⟩ := chk hm
  refine r_step rfl rfl (o_index rfl rfl (by kernel_rfl : slTy _ _ = some (csz api_Node)) (RS.based q8643 (by omega)) hc10678.1 hc10678.2) ?_
  refine xq 1 [(31, .pointer (some (elemA v8644 0 (csz api_Node) 2))), (28, .bool false), (5, v8644), (1, V a1)] ?_
  obtain ⟨x10679, hx10680, hm⟩ := obind hm
  obtain ⟨cs10681, hc10682, he10683⟩ := RS.elz q8643 (i := 0) hx10680
  obtain ⟨v10685, q10686, rfl⟩ := rc_api_Node hc10682
  refine r_step rfl rfl (o_lde (w := V x10679.To) (he10683 _ (hS10572.zin0 (Zle.refl _))) rfl (by kernel_rfl)) ?_
  refine xq 1 [(33, V a1), (32, V x10679.To), (28, .bool false), (5, v8644), (1, V a1)] ?_
  rcases ifs hm with ⟨hp10687, hm⟩ | ⟨hp10687, hm⟩
  refine r_step rfl rfl (o_cmp rfl rfl (c_neq_F hp10687)) ?_
  refine xq 3 [(37, v8644), (36, .bool false), (5, v8644), (1, V a1)] ?_
  obtain ⟨hc10688, hm⟩ := chk hm
  refine r_step rfl rfl (o_index rfl rfl (by kernel_rfl : slTy _ _ = some (csz api_Node)) (RS.based q8643 (by omega)) hc10688.1 hc10688.2) ?_
  refine xq 1 [(39, .pointer (some (elemA v8644 0 (csz api_Node) 3))), (36, .bool false), (5, v8644), (1, V a1)] ?_
  obtain ⟨x10689, hx10690, hm⟩ := obind hm
  obtain ⟨cs10691, hc10692, he10693⟩ := RS.elz q8643 (i := 0) hx10690
  obtain ⟨v10695, q10696, rfl⟩ := rc_api_Node hc10692
  refine r_step rfl rfl (o_lde (w := V x10689.Up) (he10693 _ (hS10572.zin0 (Zle.refl _))) rfl (by kernel_rfl)) ?_
  rcases ifs hm with ⟨hp10697, hm⟩ | ⟨hp10697, hm⟩
  refine r_step rfl rfl (o_cmp rfl rfl (c_neq_F hp10697)) ?_
  refine xq 3 [(44, V a1), (43, .bool false), (5, v8644)] ?_
  rcases ifs hm with ⟨hp10698, hm⟩ | ⟨hp10698, hm⟩
  refine r_step rfl rfl (o_cmp rfl rfl (c_lss_T hp10698)) ?_
  refine xe 1 [(46, .bool true), (5, v8644)] ?_
  refine cT 46 rfl ?_
  refine sr r22_3 ?_
  refine xe 1 [(4, .bool false)] ?_
  refine rt ?_
  refine ⟨rfl, ?_⟩
  obtain rfl := Option.some.inj hm
  refine ⟨_, _, _, ResL.tmp rfl (ResL.nil), hS10572, ?_⟩
  exact rfl
  refine r_step rfl rfl (o_cmp rfl rfl (c_lss_F hp10698)) ?_
  refine xe 1 [(46, .bool false), (5, v8644)] ?_
  refine kF 46 rfl ?_
  refine sr r22_4 ?_
  refine xq 1 [(47, v8644), (5, v8644)] ?_
  refine r_step rfl trivial (o_len rfl (RS.len q8643) ⟨_, Go.Proofs.Try.underlying25⟩) ?_
  obtain ⟨hc10706, hm⟩ := chk hm
  refine r_mk rfl trivial (o_ms (α := Int) (Z := Z) (x0 := 0) (n := (a0.Nodes.length : Int)) (by_ := 8) rfl rfl (by kernel_rfl) rfl hc10706.1 (by omega) (by omega)) hS10572 ?_
  intro v10699 c10700 h10701 q10703 hS10702
  refine xe 1 [(6, v10699), (5, v8644)] ?_
  refine sq ?_
  refine sr r22_5 ?_
  refine xe 1 [(7, V 0), (6, v10699), (5, v8644)] ?_
  obtain ⟨o10925, ho10924, hm⟩ := obind hm
  refine W_join [5, 6] (fun l h => ∃ Z11053 : Zn, ∃ x11054 : List Int, ∃ v11056 : Value, ∃ c11057 : List Value, .inl x11054 = o10925 ∧ RCs (α := Int) Z11053 c11057 x11054 ∧ l = [(5, v8644), (6, v11056)] ∧ St hs [] Z (0, 0) Z11053 h [.gs v11056 c11057 (csz Int)]) ?_ ?_
  rintro l h11058 ⟨Z11053, x11054, v11056, c11057, rfl, q11055, rfl, hS11059⟩
  try dsimp only at hm
  refine sq ?_
  refine sr r22_10 ?_
  refine xe 1 [(8, V 1), (5, v8644), (6, v11056)] ?_
  obtain ⟨o11114, ho11113, hm⟩ := obind hm
  refine W_join [] (fun l h => ∃ Z11143 : Zn, .inl () = o11114 ∧ l = [] ∧ St hs [] Z (0, 0) Z11143 h []) ?_ ?_
  rintro l h11144 ⟨Z11143, rfl, rfl, hS11145⟩
  try dsimp only at hm
  refine sr r22_15 ?_
  refine xe 1 [(4, .bool true)] ?_
  refine rt ?_
  refine ⟨rfl, ?_⟩
  obtain rfl := Option.some.inj hm
  refine ⟨_, _, _, ResL.tmp rfl (ResL.nil), hS11145, ?_⟩
  exact rfl
  refine bk 2 ?_
  refine lp [5, 6, 8] (fun n l h => ∃ Z11115 : Zn, ∃ x11116 : List Int, ∃ x11120 : Int, ∃ v11118 : Value, ∃ c11119 : List Value, correctorref10_Check_l1 F a0 a1 n x11116 x11120 = some o11114 ∧ RCs (α := Int) Z11115 c11119 x11116 ∧ l = [(5, v8644), (6, v11118), (8, V x11120)] ∧ St hs [] Z (0, 0) Z11115 h [.gs v11118 c11119 (csz Int)]) F ⟨_, x11054, 1, v11056, c11057, ho11113, q11055, rfl, hS11059⟩ ?_
  rintro n11123 l h11121 ⟨Z11115, x11116, x11120, v11118, c11119, ho11113, q11117, rfl, hS11122⟩
  rcases n11123 with _ | n11123
  cases (show none = some o11114 from ho11113)
  rw [correctorref10_Check_l1] at ho11113
  refine sq ?_
  refine sr r22_11 ?_
  refine xq 2 [(83, v8644), (82, V x11120), (5, v8644), (6, v11118), (8, V x11120)] ?_
  refine r_step rfl trivial (o_len rfl (RS.len (q8643.mono hS11122.zle)) ⟨_, Go.Proofs.Try.underlying25⟩) ?_
  rcases ifs ho11113 with ⟨hp11126, ho11113⟩ | ⟨hp11126, ho11113⟩
  refine r_step rfl trivial (o_cmp rfl rfl (c_lss_T hp11126)) ?_
  refine xf [(85, .bool true), (5, v8644), (6, v11118), (8, V x11120)] ?_
  refine kT 85 rfl ?_
  refine sq ?_
  refine bk 3 ?_
  refine sr r22_13 ?_
  refine xq 2 [(89, V x11120), (88, v11118), (5, v8644), (6, v11118), (8, V x11120)] ?_
  obtain ⟨hc11135, ho11113⟩ := chk ho11113
  refine r_step rfl trivial (o_index rfl rfl (by kernel_rfl : slTy _ _ = some (csz Int)) (hS11122.gbased (j := 0) rfl q11117 (by omega)) hc11135.1 hc11135.2) ?_
  obtain ⟨x11136, hx11137, ho11113⟩ := obind ho11113
  obtain ⟨cs11138, hc11139, he11140, ht11141⟩ := hS11122.gel (j := 0) rfl q11117 (i := x11120) hx11137
  obtain rfl := rc_Int hc11139
  refine r_step rfl trivial (o_lde (w := V x11136) he11140 rfl (by kernel_rfl)) ?_
  rcases ifs ho11113 with ⟨hp11142, ho11113⟩ | ⟨hp11142, ho11113⟩
  refine r_step rfl trivial (o_cmp rfl rfl (c_neq_F hp11142)) ?_
  refine xf [(92, .bool false), (5, v8644), (6, v11118), (8, V x11120)] ?_
  refine kF 92 rfl ?_
  refine rg r22_12 ?_
  refine xe 3 [(8, V (w64 (x11120 + 1))), (5, v8644), (6, v11118)] ?_
  exact ⟨n11123, Nat.lt_succ_self _, ⟨_, x11116, w64 (x11120 + 1), v11118, c11119, ho11113, q11117, rfl, hS11122⟩⟩
  refine r_step rfl trivial (o_cmp rfl rfl (c_neq_T hp11142)) ?_
  refine xf [(92, .bool true), (5, v8644), (6, v11118), (8, V x11120)] ?_
  refine cT 92 rfl ?_
  refine sr r22_14 ?_
  refine xe 1 [(4, .bool false)] ?_
  refine rt ?_
  refine blkX_ret ?_
  refine blkX_ret ?_
  refine ⟨rfl, ?_⟩
  obtain rfl := Option.some.inj ho11113
  obtain rfl := Option.some.inj hm
  refine ⟨_, _, _, ResL.tmp rfl (ResL.nil), hS11122, ?_⟩
  exact rfl
  refine r_step rfl trivial (o_cmp rfl rfl (c_lss_F hp11126)) ?_
  refine xf [(85, .bool false), (5, v8644), (6, v11118), (8, V x11120)] ?_
  refine cF 85 rfl ?_
  refine xt 2 ?_
  refine blkX_hit ?_
  obtain rfl := Option.some.inj ho11113
  exact ⟨_, rfl, rfl, (hS11122.takeN 0)⟩
  refine bk 0 ?_
  refine lp [5, 6, 7] (fun n l h => ∃ Z10926 : Zn, ∃ x10927 : List Int, ∃ x10931 : Int, ∃ v10929 : Value, ∃ c10930 : List Value, correctorref10_Check_l0 F a0 a1 n x10927 x10931 = some o10925 ∧ RCs (α := Int) Z10926 c10930 x10927 ∧ l = [(5, v8644), (6, v10929), (7, V x10931)] ∧ St hs [] Z (0, 0) Z10926 h [.gs v10929 c10930 (csz Int)]) F ⟨_, List.replicate (a0.Nodes.length : Int).toNat 0, 0, v10699, c10700, ho10924, q10703, rfl, (hS10702.takeN 1)⟩ ?_
  rintro n10934 l h10932 ⟨Z10926, x10927, x10931, v10929, c10930, ho10924, q10928, rfl, hS10933⟩
  rcases n10934 with _ | n10934
  cases (show none = some o10925 from ho10924)
  rw [correctorref10_Check_l0] at ho10924
  refine sq ?_
  refine sr r22_6 ?_
  refine xq 2 [(51, v8644), (50, V x10931), (5, v8644), (6, v10929), (7, V x10931)] ?_
  refine r_step rfl trivial (o_len rfl (RS.len (q8643.mono hS10933.zle)) ⟨_, Go.Proofs.Try.underlying25⟩) ?_
  rcases ifs ho10924 with ⟨hp10937, ho10924⟩ | ⟨hp10937, ho10924⟩
  refine r_step rfl trivial (o_cmp rfl rfl (c_lss_T hp10937)) ?_
  refine xf [(53, .bool true), (5, v8644), (6, v10929), (7, V x10931)] ?_
  refine kT 53 rfl ?_
  refine sq ?_
  refine bk 1 ?_
  obtain ⟨o10988, ho10987, ho10924⟩ := obind ho10924
  refine W_seqJoin0 [5, 6, 7] (fun l h => ∃ Z11038 : Zn, ∃ x11039 : List Int, ∃ v11041 : Value, ∃ c11042 : List Value, .inl x11039 = o10988 ∧ RCs (α := Int) Z11038 c11042 x11039 ∧ l = [(5, v8644), (6, v11041), (7, V x10931)] ∧ St hs [] Z (0, 0) Z11038 h [.gs v11041 c11042 (csz Int)]) (by kernel_rfl) ?_ ?_
  rintro l h11043 ⟨Z11038, x11039, v11041, c11042, rfl, q11040, rfl, hS11044⟩
  try dsimp only at ho10924
  refine rg r22_7 ?_
  refine xe 3 [(7, V (w64 (x10931 + 1))), (5, v8644), (6, v11041)] ?_
  exact ⟨n10934, Nat.lt_succ_self _, ⟨_, x11039, w64 (x10931 + 1), v11041, c11042, ho10924, q11040, rfl, hS11044⟩⟩
  refine rg r22_8 ?_
  refine xq 1 [(56, V x10931), (5, v8644), (6, v10929), (7, V x10931)] ?_
  rcases ifs ho10987 with ⟨hp10989, ho10987⟩ | ⟨hp10989, ho10987⟩
  refine r_step rfl trivial (o_cmp rfl rfl (c_gtr_T hp10989)) ?_
  refine xq 3 [(60, V x10931), (59, v8644), (58, .bool true), (5, v8644), (6, v10929), (7, V x10931)] ?_
  obtain ⟨hc10990, ho10987⟩ := chk ho10987
  refine r_step rfl rfl (o_index rfl rfl (by kernel_rfl : slTy _ _ = some (csz api_Node)) (RS.based (q8643.mono hS10933.zle) (by omega)) hc10990.1 hc10990.2) ?_
  refine xq 1 [(62, .pointer (some (elemA v8644 x10931 (csz api_Node) 3))), (58, .bool true), (5, v8644), (6, v10929), (7, V x10931)] ?_
  obtain ⟨x10991, hx10992, ho10987⟩ := obind ho10987
  obtain ⟨cs10993, hc10994, he10995⟩ := RS.elz (q8643.mono hS10933.zle) (i := x10931) hx10992
  obtain ⟨v10997, q10998, rfl⟩ := rc_api_Node hc10994
  refine r_step rfl rfl (o_lde (w := V x10991.Up) (he10995 _ (hS10933.zin0 (Zle.refl _))) rfl (by kernel_rfl)) ?_
  rcases ifs ho10987 with ⟨hp10999, ho10987⟩ | ⟨hp10999, ho10987⟩
  refine r_step rfl rfl (o_cmp rfl rfl (c_lss_T hp10999)) ?_
  refine xe 17 [(81, .bool true), (5, v8644), (6, v10929), (7, V x10931)] ?_
  refine cT 81 rfl ?_
  refine sr r22_9 ?_
  refine xe 1 [(4, .bool false)] ?_
  refine rt ?_
  refine blkX_ret ?_
  refine blkX_ret ?_
  refine ⟨rfl, ?_⟩
  obtain rfl := Option.some.inj ho10987
  obtain rfl := Option.some.inj ho10924
  obtain rfl := Option.some.inj hm
  refine ⟨_, _, _, ResL.tmp rfl (ResL.nil), hS10933, ?_⟩
  exact rfl
  refine r_step rfl rfl (o_cmp rfl rfl (c_lss_F hp10999)) ?_
  refine xq 3 [(67, V x10931), (66, v8644), (65, .bool false), (58, .bool true), (5, v8644), (6, v10929), (7, V x10931)] ?_
  obtain ⟨hc11000, ho10987⟩ := chk ho10987
  refine r_step rfl rfl (o_index rfl rfl (by kernel_rfl : slTy _ _ = some (csz api_Node)) (RS.based (q8643.mono hS10933.zle) (by omega)) hc11000.1 hc11000.2) ?_
  refine xq 1 [(69, .pointer (some (elemA v8644 x10931 (csz api_Node) 3))), (65, .bool false), (58, .bool true), (5, v8644), (6, v10929), (7, V x10931)] ?_
  obtain ⟨x11001, hx11002, ho10987⟩ := obind ho10987
  obtain ⟨cs11003, hc11004, he11005⟩ := RS.elz (q8643.mono hS10933.zle) (i := x10931) hx11002
  obtain ⟨v11007, q11008, rfl⟩ := rc_api_Node hc11004
  refine r_step rfl rfl (o_lde (w := V x11001.Up) (he11005 _ (hS10933.zin0 (Zle.refl _))) rfl (by kernel_rfl)) ?_
  refine xq 1 [(71, V x10931), (70, V x11001.Up), (65, .bool false), (58, .bool true), (5, v8644), (6, v10929), (7, V x10931)] ?_
  rcases ifs ho10987 with ⟨hp11009, ho10987⟩ | ⟨hp11009, ho10987⟩
  refine r_step rfl rfl (o_cmp rfl rfl (c_geq_T hp11009)) ?_
  refine xe 9 [(81, .bool true), (5, v8644), (6, v10929), (7, V x10931)] ?_
  refine cT 81 rfl ?_
  refine sr r22_9 ?_
  refine xe 1 [(4, .bool false)] ?_
  refine rt ?_
  refine blkX_ret ?_
  refine blkX_ret ?_
  refine ⟨rfl, ?_⟩
  obtain rfl := Option.some.inj ho10987
  obtain rfl := Option.some.inj ho10924
  obtain rfl := Option.some.inj hm
  refine ⟨_, _, _, ResL.tmp rfl (ResL.nil), hS10933, ?_⟩
  exact rfl
  refine r_step rfl rfl (o_cmp rfl rfl (c_geq_F hp11009)) ?_
  refine xq 6 [(78, v10929), (77, V x10931), (76, v8644), (75, .bool false), (5, v8644), (6, v10929), (7, V x10931)] ?_
  obtain ⟨r11010, hx11011, ho10987⟩ := obind ho10987
  have hF11017 : St _ _ _ _ _ _ ([.gs v10929 c10930 (csz Int)] ++ []) := (hS10933.front 0 rfl)
  obtain ⟨v11012, h11013, Z11018, A11020, hcl11014, hSc11015, c11022, rfl, rfl, q11021⟩ := correctorref10_kids_ok F hF11017.preL (q8643.mono hS10933.zle) q10928 hx11011
  have hZ11019 := hSc11015.zle
  have hS11016 := hF11017.call hSc11015
  replace hS11016 : St _ _ _ _ _ _ [.gs v10929 c11022 (csz Int)] := hS11016
  refine r_step rfl rfl (o_call hcl11014 rfl rfl rfl) ?_
  rcases ifs ho10987 with ⟨hp11023, ho10987⟩ | ⟨hp11023, ho10987⟩
  refine r_setb (t := 79) rfl hp11023 ?_
  refine xe 2 [(81, .bool false), (5, v8644), (6, v10929), (7, V x10931)] ?_
  refine kF 81 rfl ?_
  obtain rfl := Option.some.inj ho10987
  exact ⟨_, r11010.2, v10929, c11022, rfl, q11021, rfl, hS11016⟩
  refine r_setb (t := 79) rfl (Bool.eq_false_iff.2 hp11023) ?_
  refine xe 2 [(81, .bool true), (5, v8644), (6, v10929), (7, V x10931)] ?_
  refine cT 81 rfl ?_
  refine sr r22_9 ?_
  refine xe 1 [(4, .bool false)] ?_
  refine rt ?_
  refine blkX_ret ?_
  refine blkX_ret ?_
  refine ⟨rfl, ?_⟩
  obtain rfl := Option.some.inj ho10987
  obtain rfl := Option.some.inj ho10924
  obtain rfl := Option.some.inj hm
  refine ⟨_, _, _, ResL.tmp rfl (ResL.nil), hS11016, ?_⟩
  exact rfl
  refine r_step rfl trivial (o_cmp rfl rfl (c_gtr_F hp10989)) ?_
  refine xq 21 [(78, v10929), (77, V x10931), (76, v8644), (75, .bool false), (5, v8644), (6, v10929), (7, V x10931)] ?_
  obtain ⟨r11024, hx11025, ho10987⟩ := obind ho10987
  have hF11031 : St _ _ _ _ _ _ ([.gs v10929 c10930 (csz Int)] ++ []) := (hS10933.front 0 rfl)
  obtain ⟨v11026, h11027, Z11032, A11034, hcl11028, hSc11029, c11036, rfl, rfl, q11035⟩ := correctorref10_kids_ok F hF11031.preL (q8643.mono hS10933.zle) q10928 hx11025
  have hZ11033 := hSc11029.zle
  have hS11030 := hF11031.call hSc11029
  replace hS11030 : St _ _ _ _ _ _ [.gs v10929 c11036 (csz Int)] := hS11030
  refine r_step rfl rfl (o_call hcl11028 rfl rfl rfl) ?_
  rcases ifs ho10987 with ⟨hp11037, ho10987⟩ | ⟨hp11037, ho10987⟩
  refine r_setb (t := 79) rfl hp11037 ?_
  refine xe 2 [(81, .bool false), (5, v8644), (6, v10929), (7, V x10931)] ?_
  refine kF 81 rfl ?_
  obtain rfl := Option.some.inj ho10987
  exact ⟨_, r11024.2, v10929, c11036, rfl, q11035, rfl, hS11030⟩
  refine r_setb (t := 79) rfl (Bool.eq_false_iff.2 hp11037) ?_
  refine xe 2 [(81, .bool true), (5, v8644), (6, v10929), (7, V x10931)] ?_
  refine cT 81 rfl ?_
  refine sr r22_9 ?_
  refine xe 1 [(4, .bool false)] ?_
  refine rt ?_
  refine blkX_ret ?_
  refine blkX_ret ?_
  refine ⟨rfl, ?_⟩
  obtain rfl := Option.some.inj ho10987
  obtain rfl := Option.some.inj ho10924
  obtain rfl := Option.some.inj hm
  refine ⟨_, _, _, ResL.tmp rfl (ResL.nil), hS11030, ?_⟩
  exact rfl
  refine r_step rfl trivial (o_cmp rfl rfl (c_lss_F hp10937)) ?_
  refine xf [(53, .bool false), (5, v8644), (6, v10929), (7, V x10931)] ?_
  refine cF 53 rfl ?_
  refine xt 0 ?_
  refine blkX_hit ?_
  obtain rfl := Option.some.inj ho10924
  exact ⟨_, x10927, v10929, c10930, rfl, q10928, rfl, hS10933⟩
  refine r_step rfl rfl (o_cmp rfl rfl (c_neq_T hp10697)) ?_
  refine xe 5 [(46, .bool true), (5, v8644)] ?_
  refine cT 46 rfl ?_
  refine sr r22_3 ?_
  refine xe 1 [(4, .bool false)] ?_
  refine rt ?_
  refine ⟨rfl, ?_⟩
  obtain rfl := Option.some.inj hm
  refine ⟨_, _, _, ResL.tmp rfl (ResL.nil), hS10572, ?_⟩
  exact rfl
  refine r_step rfl rfl (o_cmp rfl rfl (c_neq_T hp10687)) ?_
  refine xe 12 [(46, .bool true), (5, v8644)] ?_
  refine cT 46 rfl ?_
  refine sr r22_3 ?_
  refine xe 1 [(4, .bool false)] ?_
  refine rt ?_
  refine ⟨rfl, ?_⟩
  obtain rfl := Option.some.inj hm
  refine ⟨_, _, _, ResL.tmp rfl (ResL.nil), hS10572, ?_⟩
  exact rfl
  refine r_step rfl rfl (o_cmp rfl rfl (c_neq_T hp10677)) ?_
  refine xe 20 [(46, .bool true), (5, v8644)] ?_
  refine cT 46 rfl ?_
  refine sr r22_3 ?_
  refine xe 1 [(4, .bool false)] ?_
  refine rt ?_
  refine ⟨rfl, ?_⟩
  obtain rfl := Option.some.inj hm
  refine ⟨_, _, _, ResL.tmp rfl (ResL.nil), hS10572, ?_⟩
  exact rfl
  refine r_step rfl rfl (o_cmp rfl rfl (c_neq_T hp10667)) ?_
  refine xe 27 [(46, .bool true), (5, v8644)] ?_
  refine cT 46 rfl ?_
  refine sr r22_3 ?_
  refine xe 1 [(4, .bool false)] ?_
  refine rt ?_
  refine ⟨rfl, ?_⟩
  obtain rfl := Option.some.inj hm
  refine ⟨_, _, _, ResL.tmp rfl (ResL.nil), hS10572, ?_⟩
  exact rfl

def r12_0 : List COp := [u 3 (.box 29 (t 0)), u 6 (.alloc 29)]
def r12_1 : List COp := [u 8 (.move (t 1)), u 9 (.binOp .lss 3 (t 8) (ci 0) 3), u 10 (.move (t 9)), gN 10 (some 11) (.move (t 1)), gN 10 (some 12) (.fieldAddr 29 (t 3) 0), gN 10 (some 13) (.load 25 (t 12)), gN 10 (some 14) (cb .len #[(t 13)] #[25]), gN 10 (some 15) (.binOp .geq 3 (t 11) (t 14) 3), u 16 (.pick (t 10) (.const (.bool true)) (t 15)), u 17 (.move (t 16)), gN 17 (some 18) (.move (t 2)), gN 17 (some 19) (.fieldAddr 29 (t 3) 0), gN 17 (some 20) (.load 25 (t 19)), gN 17 (some 21) (.indexAddr 25 (t 20) (ci 0)), gN 17 (some 22) (.fieldAddr 46 (t 21) 2), gN 17 (some 23) (.load 3 (t 22)), gN 17 (some 24) (.binOp .gtr 3 (t 18) (t 23) 3), u 25 (.pick (t 17) (.const (.bool true)) (t 24))]
def r12_2 : List COp := [u 26 (.load 29 (t 3)), o (.store 29 (t 6) (t 26))]
def r12_3 : List COp := [u 27 (.load 29 (t 3)), u 28 (cf 23 #[(t 27)] #[29]), u 7 (.assign (t 28))]
def r12_4 : List COp := [u 29 (.move (t 7)), u 30 (.move (t 1)), u 31 (.move (t 2)), u 32 (cf 24 #[(t 29), (t 30), (t 31)] #[25, 3, 3])]
def r12_5 : List COp := [u 33 (.move (t 7)), u 34 (.build 29 #[(0, (t 33))]), o (.store 29 (t 6) (t 34))]
def correctorref10_Grow (F : Nat) (a0 : correctorref10_Tree) (a1 : Int) (a2 : Int) : Option correctorref10_Tree :=
  if a1 < (0 : Int) then
    none
  else
    if (a0.Nodes.length : Int) ≤ a1 then
      none
    else
      if 0 ≤ (0 : Int) ∧ (0 : Int) < (a0.Nodes.length : Int) then
        (a0.Nodes[(0 : Int).toNat]?).bind fun x11382 =>
        if x11382.To < a2 then
          none
        else
          (correctorref10_copied F a0).bind fun r11395 =>
          (correctorref10_reach F r11395 a1 a2).bind fun r11410 =>
          some (⟨r11410⟩ : correctorref10_Tree)
      else none
theorem correctorref10_Grow_ok (F : Nat) {h : AH} {Z : Zn} {a0 : correctorref10_Tree} {a1 : Int} {a2 : Int} {v11227 : Value} (hP : Pre Z h []) (q11226 : RS (α := api_Node) Z v11227 a0.Nodes) {r : correctorref10_Tree} (hm : correctorref10_Grow F a0 a1 a2 = some r) :
    ∃ v h' Z' A', callI Go.Proofs.Try.prog 12 [.agg #[v11227], V a1, V a2] h = some (v, h') ∧ St h (idsL []) Z (0, 0) Z' h' A' ∧ ∃ v11326 : Value, ∃ c11327 : List Value, ∃ ks11328 : List Bk, .agg #[v11326] = v ∧ A' = [.gs v11326 c11327 (csz api_Node), .grp ks11328] ∧ RD (α := api_Node) Z' c11327 r.Nodes ks11328 := by
  refine fn_intro (A := []) (Q := fun v Z' A' => ∃ v11326 : Value, ∃ c11327 : List Value, ∃ ks11328 : List Bk, .agg #[v11326] = v ∧ A' = [.gs v11326 c11327 (csz api_Node), .grp ks11328] ∧ RD (α := api_Node) Z' c11327 r.Nodes ks11328) Go.Proofs.Try.func12 rfl rfl (by kernel_rfl) hP ?_
  intro hs hS
  unfold correctorref10_Grow at hm
  replace hS : St hs [] Z (0, 0) Z hs [] := hS
  refine sr r12_0 ?_
  refine r_blk rfl trivial (o_box (cs := [v11227]) rfl rfl) hS ?_
  intro b11329 h11330 hS11331
  refine r_blk rfl trivial (o_alloc (cs := [.slice none 0 0]) (by kernel_rfl)) hS11331 ?_
  intro b11332 h11333 hS11334
  refine xf [(6, Pt b11332 0), (3, Pt b11329 0), (1, V a1), (2, V a2)] ?_
  refine sq ?_
  refine sr r12_1 ?_
  refine xq 1 [(8, V a1), (6, Pt b11332 0), (3, Pt b11329 0), (1, V a1), (2, V a2)] ?_
  rcases ifs hm with ⟨hp11371, hm⟩ | ⟨hp11371, hm⟩
  refine r_step rfl trivial (o_cmp rfl rfl (c_lss_T hp11371)) ?_
  refine xe 16 [(25, .bool true), (6, Pt b11332 0), (3, Pt b11329 0), (1, V a1), (2, V a2)] ?_
  refine cT 25 rfl ?_
  refine sr r12_2 ?_
  refine r_step rfl trivial (o_ldb (v := .agg #[v11227]) hS11334 (i := 1) rfl rfl (by kernel_rfl)) ?_
  refine r_ex1 rfl trivial (o_stb (vs := [v11227]) (cells' := [v11227]) (L' := [.blk b11332 [v11227], .blk b11329 [v11227]]) hS11334 (i := 0) rfl rfl rfl rfl (by kernel_rfl) (one_cons (RS.one1 q11226) one_nil) rfl rfl rfl) ?_
  intro h11374 hS11375
  refine xf [(6, Pt b11332 0)] ?_
  refine rt ?_
  refine ⟨rfl, ?_⟩
  cases (show none = some r from hm)
  refine r_step rfl trivial (o_cmp rfl rfl (c_lss_F hp11371)) ?_
  refine xq 3 [(12, Pt b11329 0), (11, V a1), (10, .bool false), (6, Pt b11332 0), (3, Pt b11329 0), (1, V a1), (2, V a2)] ?_
  refine r_step rfl rfl (o_ldb (v := v11227) hS11334 (i := 1) rfl rfl (by kernel_rfl)) ?_
  refine r_step rfl rfl (o_len rfl (RS.len q11226) ⟨_, Go.Proofs.Try.underlying25⟩) ?_
  rcases ifs hm with ⟨hp11376, hm⟩ | ⟨hp11376, hm⟩
  refine r_step rfl rfl (o_cmp rfl rfl (c_geq_T hp11376)) ?_
  refine xe 10 [(25, .bool true), (6, Pt b11332 0), (3, Pt b11329 0), (1, V a1), (2, V a2)] ?_
  refine cT 25 rfl ?_
  refine sr r12_2 ?_
  refine r_step rfl trivial (o_ldb (v := .agg #[v11227]) hS11334 (i := 1) rfl rfl (by kernel_rfl)) ?_
  refine r_ex1 rfl trivial (o_stb (vs := [v11227]) (cells' := [v11227]) (L' := [.blk b11332 [v11227], .blk b11329 [v11227]]) hS11334 (i := 0) rfl rfl rfl rfl (by kernel_rfl) (one_cons (RS.one1 q11226) one_nil) rfl rfl rfl) ?_
  intro h11379 hS11380
  refine xf [(6, Pt b11332 0)] ?_
  refine rt ?_
  refine ⟨rfl, ?_⟩
  cases (show none = some r from hm)
  refine r_step rfl rfl (o_cmp rfl rfl (c_geq_F hp11376)) ?_
  refine xq 4 [(19, Pt b11329 0), (18, V a2), (17, .bool false), (6, Pt b11332 0), (3, Pt b11329 0), (1, V a1), (2, V a2)] ?_
  refine r_step rfl rfl (o_ldb (v := v11227) hS11334 (i := 1) rfl rfl (by kernel_rfl)) ?_
  obtain ⟨hc11381, hm⟩ := chk hm
  refine r_step rfl rfl (o_index rfl rfl (by kernel_rfl : slTy _ _ = some (csz api_Node)) (RS.based q11226 (by omega)) hc11381.1 hc11381.2) ?_
  refine xq 1 [(22, .pointer (some (elemA v11227 0 (csz api_Node) 2))), (18, V a2), (17, .bool false), (6, Pt b11332 0), (3, Pt b11329 0), (1, V a1), (2, V a2)] ?_
  obtain ⟨x11382, hx11383, hm⟩ := obind hm
  obtain ⟨cs11384, hc11385, he11386⟩ := RS.elz q11226 (i := 0) hx11383
  obtain ⟨v11388, q11389, rfl⟩ := rc_api_Node hc11385
  refine r_step rfl rfl (o_lde (w := V x11382.To) (he11386 _ (hS11334.zin0 (Zle.refl _))) rfl (by kernel_rfl)) ?_
  rcases ifs hm with ⟨hp11390, hm⟩ | ⟨hp11390, hm⟩
  refine r_step rfl rfl (o_cmp rfl rfl (c_gtr_T hp11390)) ?_
  refine xe 1 [(25, .bool true), (6, Pt b11332 0), (3, Pt b11329 0), (1, V a1), (2, V a2)] ?_
  refine cT 25 rfl ?_
  refine sr r12_2 ?_
  refine r_step rfl trivial (o_ldb (v := .agg #[v11227]) hS11334 (i := 1) rfl rfl (by kernel_rfl)) ?_
  refine r_ex1 rfl trivial (o_stb (vs := [v11227]) (cells' := [v11227]) (L' := [.blk b11332 [v11227], .blk b11329 [v11227]]) hS11334 (i := 0) rfl rfl rfl rfl (by kernel_rfl) (one_cons (RS.one1 q11226) one_nil) rfl rfl rfl) ?_
  intro h11393 hS11394
  refine xf [(6, Pt b11332 0)] ?_
  refine rt ?_
  refine ⟨rfl, ?_⟩
  cases (show none = some r from hm)
  refine r_step rfl rfl (o_cmp rfl rfl (c_gtr_F hp11390)) ?_
  refine xe 1 [(25, .bool false), (6, Pt b11332 0), (3, Pt b11329 0), (1, V a1), (2, V a2)] ?_
  refine kF 25 rfl ?_
  refine sr r12_3 ?_
  refine r_step rfl trivial (o_ldb (v := .agg #[v11227]) hS11334 (i := 1) rfl rfl (by kernel_rfl)) ?_
  obtain ⟨r11395, hx11396, hm⟩ := obind hm
  have hSr11402 : St _ _ _ _ _ _ ([] ++ [.blk b11332 [.slice none 0 0], .blk b11329 [v11227]]) := hS11334
  obtain ⟨v11397, h11398, Z11403, A11405, hcl11399, hSc11400, v11407, c11408, ks11409, rfl, rfl, q11406⟩ := correctorref10_copied_ok F hSr11402.preL q11226 hx11396
  have hS11401 := hSr11402.call hSc11400
  have hZ11404 := hSc11400.zle
  replace hS11401 : St _ _ _ _ _ _ [.gs v11407 c11408 (csz api_Node), .grp ks11409, .blk b11332 [.slice none 0 0], .blk b11329 [v11227]] := hS11401
  refine r_step rfl trivial (o_call hcl11399 rfl rfl rfl) ?_
  refine xe 1 [(7, v11407), (6, Pt b11332 0), (1, V a1), (2, V a2)] ?_
  refine sr r12_4 ?_
  refine xq 3 [(31, V a2), (30, V a1), (29, v11407), (7, v11407), (6, Pt b11332 0)] ?_
  obtain ⟨r11410, hx11411, hm⟩ := obind hm
  have hF11417 : St _ _ _ _ _ _ ([.gs v11407 c11408 (csz api_Node), .grp ks11409] ++ [.blk b11332 [.slice none 0 0], .blk b11329 [v11227]]) := ((hS11401.front 1 rfl).front 1 rfl)
  obtain ⟨v11412, h11413, Z11418, A11420, hcl11414, hSc11415, c11422, ks11423, rfl, rfl, q11421⟩ := correctorref10_reach_ok F hF11417.preL q11406 hx11411
  have hZ11419 := hSc11415.zle
  have hS11416 := hF11417.call hSc11415
  replace hS11416 : St _ _ _ _ _ _ [.gs v11407 c11422 (csz api_Node), .grp ks11423, .blk b11332 [.slice none 0 0], .blk b11329 [v11227]] := hS11416
  refine r_step rfl trivial (o_call hcl11414 rfl rfl rfl) ?_
  refine xf [(7, v11407), (6, Pt b11332 0)] ?_
  refine sr r12_5 ?_
  refine xq 1 [(33, v11407), (6, Pt b11332 0)] ?_
  refine r_step rfl trivial (o_build (v := .agg #[v11407]) rfl (CA.cons (cs := [v11407]) (hS11416.gcell1 (i := 0) rfl) (CA.nil0)) (by kernel_rfl)) ?_
  refine r_ex1 rfl trivial (o_stb (vs := [v11407]) (cells' := [v11407]) (L' := [.gs v11407 c11422 (csz api_Node), .grp ks11423, .blk b11332 [v11407], .blk b11329 [v11227]]) hS11416 (i := 2) rfl rfl rfl rfl (by kernel_rfl) (one_cons (hS11416.gone1 (i := 0) rfl) one_nil) rfl rfl rfl) ?_
  intro h11424 hS11425
  refine xf [(6, Pt b11332 0)] ?_
  refine rt ?_
  refine ⟨rfl, ?_⟩
  obtain rfl := Option.some.inj hm
  refine ⟨_, _, _, ResL.cell (v := .agg #[v11407]) rfl hS11425 (i := 2) rfl (by kernel_rfl) (ResL.nil), (hS11425.takeN 2), ?_⟩
  exact ⟨v11407, c11422, ks11423, rfl, rfl, q11421⟩

def r17_0 : List COp := [u 2 (.box 29 (t 0)), u 3 (.box 29 (t 1)), u 4 (.assign (.const (.bool false)))]
def r17_1 : List COp := [u 9 (.fieldAddr 29 (t 2) 0), u 10 (.load 25 (t 9)), u 11 (cb .len #[(t 10)] #[25]), u 12 (.fieldAddr 29 (t 3) 0), u 13 (.load 25 (t 12)), u 14 (cb .len #[(t 13)] #[25]), u 15 (.binOp .neq 3 (t 11) (t 14) 3)]
def r17_2 : List COp := [u 4 (.assign (.const (.bool false)))]
def r17_3 : List COp := [u 5 (.assign (ci 0))]
def r17_4 : List COp := [u 16 (.move (t 5)), u 17 (.fieldAddr 29 (t 2) 0), u 18 (.load 25 (t 17)), u 19 (cb .len #[(t 18)] #[25]), u 20 (.binOp .lss 3 (t 16) (t 19) 3)]
def r17_5 : List COp := [u 21 (.move (t 5)), u 22 (.binOp .add 3 (t 21) (ci 1) 3), u 5 (.assign (t 22))]
def r17_6 : List COpF := [uF 23 (.fieldAddr 29 (t 2) 0) .pure [], uF 24 (.load 25 (t 23)) .look [], uF 25 (.move (t 5)) .pure [], uF 26 (.indexAddr 25 (t 24) (t 25)) .pure [], uF 27 (.load 46 (t 26)) .look [], uF 28 (.fieldAddr 29 (t 3) 0) .pure [], uF 29 (.load 25 (t 28)) .look [], uF 30 (.move (t 5)) .pure [], uF 31 (.indexAddr 25 (t 29) (t 30)) .pure [], uF 32 (.load 46 (t 31)) .look [], uF 6 (.alloc 46) .fresh [], uF 7 (.alloc 46) .fresh [], oF (.store 46 (t 6) (t 27)) .make [1, 4], oF (.store 46 (t 7) (t 32)) .make [1, 4, 6, 9]]
def r17_7 : List COp := [u 33 (.fieldAddr 46 (t 6) 0), u 34 (.load 3 (t 33)), u 35 (.fieldAddr 46 (t 7) 0), u 36 (.load 3 (t 35)), u 37 (.binOp .neq 3 (t 34) (t 36) 3), u 38 (.move (t 37)), gN 38 (some 39) (.fieldAddr 46 (t 6) 1), gN 38 (some 40) (.load 3 (t 39)), gN 38 (some 41) (.fieldAddr 46 (t 7) 1), gN 38 (some 42) (.load 3 (t 41)), gN 38 (some 43) (.binOp .neq 3 (t 40) (t 42) 3), u 44 (.pick (t 38) (.const (.bool true)) (t 43)), u 45 (.move (t 44)), gN 45 (some 46) (.fieldAddr 46 (t 6) 2), gN 45 (some 47) (.load 3 (t 46)), gN 45 (some 48) (.fieldAddr 46 (t 7) 2), gN 45 (some 49) (.load 3 (t 48)), gN 45 (some 50) (.binOp .neq 3 (t 47) (t 49) 3), u 51 (.pick (t 45) (.const (.bool true)) (t 50)), u 52 (.move (t 51)), gN 52 (some 53) (.fieldAddr 46 (t 6) 3), gN 52 (some 54) (.load 3 (t 53)), gN 52 (some 55) (.fieldAddr 46 (t 7) 3), gN 52 (some 56) (.load 3 (t 55)), gN 52 (some 57) (.binOp .neq 3 (t 54) (t 56) 3), u 58 (.pick (t 52) (.const (.bool true)) (t 57)), u 59 (.move (t 58)), gN 59 (some 60) (.fieldAddr 46 (t 6) 5), gN 59 (some 61) (.load 4 (t 60)), gN 59 (some 62) (.fieldAddr 46 (t 7) 5), gN 59 (some 63) (.load 4 (t 62)), gN 59 (some 64) (.binOp .neq 4 (t 61) (t 63) 4), u 65 (.pick (t 59) (.const (.bool true)) (t 64)), u 66 (.move (t 65)), gN 66 (some 67) (.fieldAddr 46 (t 6) 4), gN 66 (some 68) (.load 44 (t 67)), gN 66 (some 69) (cb .len #[(t 68)] #[44]), gN 66 (some 70) (.fieldAddr 46 (t 7) 4), gN 66 (some 71) (.load 44 (t 70)), gN 66 (some 72) (cb .len #[(t 71)] #[44]), gN 66 (some 73) (.binOp .neq 3 (t 69) (t 72) 3), u 74 (.pick (t 66) (.const (.bool true)) (t 73))]
def r17_8 : List COp := [u 4 (.assign (.const (.bool false)))]
def r17_9 : List COp := [u 8 (.assign (ci 0))]
def r17_10 : List COp := [u 75 (.move (t 8)), u 76 (.fieldAddr 46 (t 6) 4), u 77 (.load 44 (t 76)), u 78 (cb .len #[(t 77)] #[44]), u 79 (.binOp .lss 3 (t 75) (t 78) 3)]
def r17_11 : List COp := [u 80 (.move (t 8)), u 81 (.binOp .add 3 (t 80) (ci 1) 3), u 8 (.assign (t 81))]
def r17_12 : List COpF := [uF 82 (.fieldAddr 46 (t 6) 4) .pure [], uF 83 (.load 44 (t 82)) .look [], uF 84 (.move (t 8)) .pure [], uF 85 (.indexAddr 44 (t 83) (t 84)) .pure [], uF 86 (.load 3 (t 85)) .look [], uF 87 (.fieldAddr 46 (t 7) 4) .pure [], uF 88 (.load 44 (t 87)) .look [], uF 89 (.move (t 8)) .pure [], uF 90 (.indexAddr 44 (t 88) (t 89)) .pure [], uF 91 (.load 3 (t 90)) .look [], uF 92 (.binOp .neq 3 (t 86) (t 91) 3) .pure []]
def r17_13 : List COp := [u 4 (.assign (.const (.bool false)))]
def r17_14 : List COp := [u 4 (.assign (.const (.bool true)))]
def correctorref10_Same_l1 (F : Nat) (a0 : correctorref10_Tree) (a1 : correctorref10_Tree) : Nat → Int → api_Node → api_Node → Int → Option (Sum Int Bool)
  | 0, _, _, _, _ => none
  | n + 1, x12920, x12922, x12926, x12929 =>
    if x12929 < (x12922.Kids.length : Int) then
      if 0 ≤ x12929 ∧ x12929 < (x12922.Kids.length : Int) then
        (x12922.Kids[x12929.toNat]?).bind fun x12965 =>
        if 0 ≤ x12929 ∧ x12929 < (x12926.Kids.length : Int) then
          (x12926.Kids[x12929.toNat]?).bind fun x12973 =>
          if x12965 = x12973 then
            correctorref10_Same_l1 F a0 a1 n x12920 x12922 x12926 (w64 (x12929 + 1))
          else
            some (.inr false)
        else none
      else none
    else
      some (.inl x12920)
def correctorref10_Same_l0 (F : Nat) (a0 : correctorref10_Tree) (a1 : correctorref10_Tree) : Nat → Int → Option (Sum Unit Bool)
  | 0, _ => none
  | n + 1, x12709 =>
    if x12709 < (a0.Nodes.length : Int) then
      if 0 ≤ x12709 ∧ x12709 < (a0.Nodes.length : Int) then
        (a0.Nodes[x12709.toNat]?).bind fun x12722 =>
        if 0 ≤ x12709 ∧ x12709 < (a1.Nodes.length : Int) then
          (a1.Nodes[x12709.toNat]?).bind fun x12732 =>
          ((if x12722.Kind = x12732.Kind then
              if x12722.From = x12732.From then
                if x12722.To = x12732.To then
                  if x12722.Up = x12732.Up then
                    if x12722.Key = true then
                      if x12732.Key = true then
                        if (x12722.Kids.length : Int) = (x12732.Kids.length : Int) then
                          some (.inl (x12722, x12732))
                        else
                          some (.inr false)
                      else
                        some (.inr false)
                    else
                      if x12732.Key = true then
                        some (.inr false)
                      else
                        if (x12722.Kids.length : Int) = (x12732.Kids.length : Int) then
                          some (.inl (x12722, x12732))
                        else
                          some (.inr false)
                  else
                    some (.inr false)
                else
                  some (.inr false)
              else
                some (.inr false)
            else
              some (.inr false)) : Option (Sum (api_Node × api_Node) Bool)).bind fun o => match o with
            | .inl (x12779, x12783) => ((correctorref10_Same_l1 F a0 a1 F x12709 x12779 x12783 0) : Option (Sum Int Bool)).bind fun o => match o with
              | .inl x12988 => correctorref10_Same_l0 F a0 a1 n (w64 (x12988 + 1))
              | .inr y => some (.inr y)
            | .inr y => some (.inr y)
        else none
      else none
    else
      some (.inl ())
def correctorref10_Same (F : Nat) (a0 : correctorref10_Tree) (a1 : correctorref10_Tree) : Option Bool :=
  if (a0.Nodes.length : Int) = (a1.Nodes.length : Int) then
    ((correctorref10_Same_l0 F a0 a1 F 0) : Option (Sum Unit Bool)).bind fun o => match o with
      | .inl () => some true
      | .inr y => some y
  else
    some false
theorem correctorref10_Same_ok (F : Nat) {h : AH} {Z : Zn} {a0 : correctorref10_Tree} {a1 : correctorref10_Tree} {v11876 : Value} {v11878 : Value} (hI : Inv Z h) (q11875 : RS (α := api_Node) Z v11876 a0.Nodes) (q11877 : RS (α := api_Node) Z v11878 a1.Nodes) {r : Bool} (hm : correctorref10_Same F a0 a1 = some r) :
    ∃ v h', callI Go.Proofs.Try.prog 17 [.agg #[v11876], .agg #[v11878]] h = some (v, h') ∧ St h [] Z (0, 0) Z h' [] ∧ v = .bool r := by
  refine fn_plain (Q := fun v => v = .bool r) Go.Proofs.Try.func17 rfl rfl hI ?_
  intro hs hS
  unfold correctorref10_Same at hm
  refine sr r17_0 ?_
  refine r_blk rfl trivial (o_box (cs := [v11876]) rfl rfl) hS ?_
  intro b12293 h12294 hS12295
  refine r_blk rfl trivial (o_box (cs := [v11878]) rfl rfl) hS12295 ?_
  intro b12296 h12297 hS12298
  refine xe 1 [(3, Pt b12296 0), (2, Pt b12293 0)] ?_
  refine sq ?_
  refine sr r17_1 ?_
  refine xq 1 [(9, Pt b12293 0), (3, Pt b12296 0), (2, Pt b12293 0)] ?_
  refine r_step rfl trivial (o_ldb (v := v11876) hS12298 (i := 1) rfl rfl (by kernel_rfl)) ?_
  refine r_step rfl trivial (o_len rfl (RS.len q11875) ⟨_, Go.Proofs.Try.underlying25⟩) ?_
  refine xq 1 [(12, Pt b12296 0), (11, V (a0.Nodes.length : Int)), (3, Pt b12296 0), (2, Pt b12293 0)] ?_
  refine r_step rfl trivial (o_ldb (v := v11878) hS12298 (i := 0) rfl rfl (by kernel_rfl)) ?_
  refine r_step rfl trivial (o_len rfl (RS.len q11877) ⟨_, Go.Proofs.Try.underlying25⟩) ?_
  rcases ifs hm with ⟨hp12301, hm⟩ | ⟨hp12301, hm⟩
  refine r_step rfl trivial (o_cmp rfl rfl (c_neq_F hp12301)) ?_
  refine xf [(15, .bool false), (3, Pt b12296 0), (2, Pt b12293 0)] ?_
  refine kF 15 rfl ?_
  refine sq ?_
  refine sr r17_3 ?_
  refine xe 1 [(5, V 0), (3, Pt b12296 0), (2, Pt b12293 0)] ?_
  obtain ⟨o12705, ho12704, hm⟩ := obind hm
  refine W_join [] (fun l h => ∃ Z13004 : Zn, .inl () = o12705 ∧ l = [] ∧ St hs [] Z (0, 0) Z13004 h []) ?_ ?_
  rintro l h13005 ⟨Z13004, rfl, rfl, hS13006⟩
  try dsimp only at hm
  refine sr r17_14 ?_
  refine xe 1 [(4, .bool true)] ?_
  refine rt ?_
  refine ⟨rfl, ?_⟩
  obtain rfl := Option.some.inj hm
  refine ⟨_, _, _, ResL.tmp rfl (ResL.nil), hS13006, ?_⟩
  exact rfl
  refine bk 0 ?_
  refine lp [2, 3, 5] (fun n l h => ∃ Z12706 : Zn, ∃ x12709 : Int, ∃ b12707 : Nat, ∃ b12708 : Nat, correctorref10_Same_l0 F a0 a1 n x12709 = some o12705 ∧ l = [(2, Pt b12707 0), (3, Pt b12708 0), (5, V x12709)] ∧ St hs [] Z (0, 0) Z12706 h [.blk b12707 [v11876], .blk b12708 [v11878]]) F ⟨_, 0, b12293, b12296, ho12704, rfl, ((hS12298.front 0 rfl).front 1 rfl)⟩ ?_
  rintro n12712 l h12710 ⟨Z12706, x12709, b12707, b12708, ho12704, rfl, hS12711⟩
  rcases n12712 with _ | n12712
  cases (show none = some o12705 from ho12704)
  rw [correctorref10_Same_l0] at ho12704
  refine sq ?_
  refine sr r17_4 ?_
  refine xq 2 [(17, Pt b12707 0), (16, V x12709), (2, Pt b12707 0), (3, Pt b12708 0), (5, V x12709)] ?_
  refine r_step rfl trivial (o_ldb (v := v11876) hS12711 (i := 0) rfl rfl (by kernel_rfl)) ?_
  refine r_step rfl trivial (o_len rfl (RS.len (q11875.mono hS12711.zle)) ⟨_, Go.Proofs.Try.underlying25⟩) ?_
  rcases ifs ho12704 with ⟨hp12715, ho12704⟩ | ⟨hp12715, ho12704⟩
  refine r_step rfl trivial (o_cmp rfl rfl (c_lss_T hp12715)) ?_
  refine xf [(20, .bool true), (2, Pt b12707 0), (3, Pt b12708 0), (5, V x12709)] ?_
  refine kT 20 rfl ?_
  refine sq ?_
  refine bk 1 ?_
  refine srF r17_6 hS12711 ?_
  intro bs12716 h12717 hlv12719 hS12718
  refine yq 1 [(23, Pt b12707 0), (2, Pt b12707 0), (3, Pt b12708 0), (5, V x12709)] ?_
  have lt12720 : b12707 < bs12716 := hlv12719.1 _ (List.mem_of_getElem? (i := 0) rfl) _ (by simp [Itm.ids])
  refine e_lookB rfl trivial rfl (by show b12707 < _; omega) (same1 (v := v11876) (RS.sim1 (q11875.mono hS12711.zle))) (o_ldb (v := v11876) hS12718 (i := 0) rfl rfl (by kernel_rfl)) trivial ?_
  refine yq 1 [(25, V x12709), (24, v11876), (2, Pt b12707 0), (3, Pt b12708 0), (5, V x12709)] ?_
  obtain ⟨hc12721, ho12704⟩ := chk ho12704
  refine e_val rfl trivial (o_index rfl rfl (by kernel_rfl : slTy _ _ = some (csz api_Node)) (RS.based (q11875.mono hS12711.zle) (by omega)) hc12721.1 hc12721.2) ?_
  obtain ⟨x12722, hx12723, ho12704⟩ := obind ho12704
  obtain ⟨cs12724, hc12725, he12726⟩ := RS.elz (q11875.mono hS12711.zle) (i := x12709) hx12723
  obtain ⟨v12728, q12729, rfl⟩ := rc_api_Node hc12725
  refine e_lookZ rfl rfl trivial (fun h2 hz => o_lde (w := .agg #[V x12722.Kind, V x12722.From, V x12722.To, V x12722.Up, v12728, .bool x12722.Key]) (he12726 h2 hz) rfl (by kernel_rfl)) (hS12718.zin0 (Zle.refl _)) (same_agg (cs := [V x12722.Kind, V x12722.From, V x12722.To, V x12722.Up, v12728, .bool x12722.Key]) (.cons trivial (.cons trivial (.cons trivial (.cons trivial (.cons (RS.sim1 q12729) (.cons trivial .nil))))))) trivial ?_
  refine yq 1 [(28, Pt b12708 0), (27, .agg #[V x12722.Kind, V x12722.From, V x12722.To, V x12722.Up, v12728, .bool x12722.Key]), (2, Pt b12707 0), (3, Pt b12708 0), (5, V x12709)] ?_
  have lt12730 : b12708 < bs12716 := hlv12719.1 _ (List.mem_of_getElem? (i := 1) rfl) _ (by simp [Itm.ids])
  refine e_lookB rfl trivial rfl (by show b12708 < _; omega) (same1 (v := v11878) (RS.sim1 (q11877.mono hS12711.zle))) (o_ldb (v := v11878) hS12718 (i := 1) rfl rfl (by kernel_rfl)) trivial ?_
  refine yq 1 [(30, V x12709), (29, v11878), (27, .agg #[V x12722.Kind, V x12722.From, V x12722.To, V x12722.Up, v12728, .bool x12722.Key]), (2, Pt b12707 0), (3, Pt b12708 0), (5, V x12709)] ?_
  obtain ⟨hc12731, ho12704⟩ := chk ho12704
  refine e_val rfl trivial (o_index rfl rfl (by kernel_rfl : slTy _ _ = some (csz api_Node)) (RS.based (q11877.mono hS12711.zle) (by omega)) hc12731.1 hc12731.2) ?_
  obtain ⟨x12732, hx12733, ho12704⟩ := obind ho12704
  obtain ⟨cs12734, hc12735, he12736⟩ := RS.elz (q11877.mono hS12711.zle) (i := x12709) hx12733
  obtain ⟨v12738, q12739, rfl⟩ := rc_api_Node hc12735
  refine e_lookZ rfl rfl trivial (fun h2 hz => o_lde (w := .agg #[V x12732.Kind, V x12732.From, V x12732.To, V x12732.Up, v12738, .bool x12732.Key]) (he12736 h2 hz) rfl (by kernel_rfl)) (hS12718.zin0 (Zle.refl _)) (same_agg (cs := [V x12732.Kind, V x12732.From, V x12732.To, V x12732.Up, v12738, .bool x12732.Key]) (.cons trivial (.cons trivial (.cons trivial (.cons trivial (.cons (RS.sim1 q12739) (.cons trivial .nil))))))) trivial ?_
  refine e_blk rfl trivial (o_alloc (cs := [V 0, V 0, V 0, V 0, .slice none 0 0, .bool false]) (by kernel_rfl)) hS12718 (by omega) (Nat.add_lt_add_left (by decide) _) ?_
  intro b12740 h12741 eb12743 hS12742
  refine e_blk rfl trivial (o_alloc (cs := [V 0, V 0, V 0, V 0, .slice none 0 0, .bool false]) (by kernel_rfl)) hS12742 (by omega) (Nat.add_lt_add_left (by decide) _) ?_
  intro b12744 h12745 eb12747 hS12746
  have hF12750 : St _ _ _ _ _ _ ([.blk b12740 [V 0, V 0, V 0, V 0, .slice none 0 0, .bool false]] ++ [.blk b12744 [V 0, V 0, V 0, V 0, .slice none 0 0, .bool false], .blk b12707 [v11876], .blk b12708 [v11878]]) := (hS12746.front 1 rfl)
  refine e_mk1 rfl trivial hF12750 (o_stb (vs := [V x12722.Kind, V x12722.From, V x12722.To, V x12722.Up, v12728, .bool x12722.Key]) (cells' := (K46 v12728 x12722)) (L' := [.blk b12740 (K46 v12728 x12722)]) hF12750.sub (i := 0) rfl rfl rfl rfl (by kernel_rfl) (one_cons rfl (one_cons rfl (one_cons rfl (one_cons rfl (one_cons (RS.one1 q12729) (one_cons rfl one_nil)))))) rfl rfl rfl) (Zle.refl _) (.keep trivial (.keep (hF12750.neB 2 rfl blk_mem) (.keep trivial (.keep (hF12750.neB 1 rfl blk_mem) .nil)))) ?_
  intro h12748 hS12749
  have hF12753 : St _ _ _ _ _ _ ([.blk b12744 [V 0, V 0, V 0, V 0, .slice none 0 0, .bool false]] ++ [.blk b12740 (K46 v12728 x12722), .blk b12707 [v11876], .blk b12708 [v11878]]) := (hS12749.front 1 rfl)
  refine e_mk1 rfl trivial hF12753 (o_stb (vs := [V x12732.Kind, V x12732.From, V x12732.To, V x12732.Up, v12738, .bool x12732.Key]) (cells' := (K46 v12738 x12732)) (L' := [.blk b12744 (K46 v12738 x12732)]) hF12753.sub (i := 0) rfl rfl rfl rfl (by kernel_rfl) (one_cons rfl (one_cons rfl (one_cons rfl (one_cons rfl (one_cons (RS.one1 q12739) (one_cons rfl one_nil)))))) rfl rfl rfl) (Zle.refl _) (.keep trivial (.keep (hF12753.neB 2 rfl blk_mem) (.keep trivial (.keep (hF12753.neB 1 rfl blk_mem) .nil)))) ?_
  intro h12751 hS12752
  refine yf [(7, Pt b12744 0), (6, Pt b12740 0), (2, Pt b12707 0), (3, Pt b12708 0), (5, V x12709)] ?_
  have hS12754 := hS12752.unres
  refine sq ?_
  obtain ⟨o12765, ho12764, ho12704⟩ := obind ho12704
  refine W_join [2, 3, 5, 6, 7] (fun l h => ∃ Z12775 : Zn, ∃ x12779 : api_Node, ∃ x12783 : api_Node, ∃ b12776 : Nat, ∃ b12777 : Nat, ∃ b12778 : Nat, ∃ v12781 : Value, ∃ b12782 : Nat, ∃ v12785 : Value, .inl (x12779, x12783) = o12765 ∧ RS (α := Int) Z12775 v12781 x12779.Kids ∧ RS (α := Int) Z12775 v12785 x12783.Kids ∧ l = [(2, Pt b12776 0), (3, Pt b12777 0), (5, V x12709), (6, Pt b12778 0), (7, Pt b12782 0)] ∧ St hs [] Z (0, 0) Z12775 h [.blk b12776 [v11876], .blk b12777 [v11878], .blk b12778 (K46 v12781 x12779), .blk b12782 (K46 v12785 x12783)]) ?_ ?_
  rintro l h12786 ⟨Z12775, x12779, x12783, b12776, b12777, b12778, v12781, b12782, v12785, rfl, q12780, q12784, rfl, hS12787⟩
  try dsimp only at ho12704
  refine sr r17_9 ?_
  refine xe 1 [(8, V 0), (2, Pt b12776 0), (3, Pt b12777 0), (5, V x12709), (6, Pt b12778 0), (7, Pt b12782 0)] ?_
  obtain ⟨o12916, ho12915, ho12704⟩ := obind ho12704
  refine W_join [2, 3, 5] (fun l h => ∃ Z12985 : Zn, ∃ x12988 : Int, ∃ b12986 : Nat, ∃ b12987 : Nat, .inl x12988 = o12916 ∧ l = [(2, Pt b12986 0), (3, Pt b12987 0), (5, V x12988)] ∧ St hs [] Z (0, 0) Z12985 h [.blk b12986 [v11876], .blk b12987 [v11878]]) ?_ ?_
  rintro l h12989 ⟨Z12985, x12988, b12986, b12987, rfl, rfl, hS12990⟩
  try dsimp only at ho12704
  refine rg r17_5 ?_
  refine xe 3 [(5, V (w64 (x12988 + 1))), (2, Pt b12986 0), (3, Pt b12987 0)] ?_
  exact ⟨n12712, Nat.lt_succ_self _, ⟨_, w64 (x12988 + 1), b12986, b12987, ho12704, rfl, hS12990⟩⟩
  refine bk 2 ?_
  refine lp [2, 3, 5, 6, 7, 8] (fun n l h => ∃ Z12917 : Zn, ∃ x12920 : Int, ∃ x12922 : api_Node, ∃ x12926 : api_Node, ∃ x12929 : Int, ∃ b12918 : Nat, ∃ b12919 : Nat, ∃ b12921 : Nat, ∃ v12924 : Value, ∃ b12925 : Nat, ∃ v12928 : Value, correctorref10_Same_l1 F a0 a1 n x12920 x12922 x12926 x12929 = some o12916 ∧ RS (α := Int) Z12917 v12924 x12922.Kids ∧ RS (α := Int) Z12917 v12928 x12926.Kids ∧ l = [(2, Pt b12918 0), (3, Pt b12919 0), (5, V x12920), (6, Pt b12921 0), (7, Pt b12925 0), (8, V x12929)] ∧ St hs [] Z (0, 0) Z12917 h [.blk b12918 [v11876], .blk b12919 [v11878], .blk b12921 (K46 v12924 x12922), .blk b12925 (K46 v12928 x12926)]) F ⟨_, x12709, x12779, x12783, 0, b12776, b12777, b12778, v12781, b12782, v12785, ho12915, q12780, q12784, rfl, hS12787⟩ ?_
  rintro n12932 l h12930 ⟨Z12917, x12920, x12922, x12926, x12929, b12918, b12919, b12921, v12924, b12925, v12928, ho12915, q12923, q12927, rfl, hS12931⟩
  rcases n12932 with _ | n12932
  cases (show none = some o12916 from ho12915)
  rw [correctorref10_Same_l1] at ho12915
  refine sq ?_
  refine sr r17_10 ?_
  refine xq 2 [(76, Pt b12921 4), (75, V x12929), (2, Pt b12918 0), (3, Pt b12919 0), (5, V x12920), (6, Pt b12921 0), (7, Pt b12925 0), (8, V x12929)] ?_
  refine r_step rfl trivial (o_ldb (v := v12924) hS12931 (i := 2) rfl rfl (by kernel_rfl)) ?_
  refine r_step rfl trivial (o_len rfl (RS.len q12923) ⟨_, Go.Proofs.Try.underlying44⟩) ?_
  rcases ifs ho12915 with ⟨hp12935, ho12915⟩ | ⟨hp12935, ho12915⟩
  refine r_step rfl trivial (o_cmp rfl rfl (c_lss_T hp12935)) ?_
  refine xf [(79, .bool true), (2, Pt b12918 0), (3, Pt b12919 0), (5, V x12920), (6, Pt b12921 0), (7, Pt b12925 0), (8, V x12929)] ?_
  refine kT 79 rfl ?_
  refine sq ?_
  refine bk 3 ?_
  refine srF r17_12 hS12931 ?_
  intro bs12959 h12960 hlv12962 hS12961
  refine yq 1 [(82, Pt b12921 4), (2, Pt b12918 0), (3, Pt b12919 0), (5, V x12920), (6, Pt b12921 0), (7, Pt b12925 0), (8, V x12929)] ?_
  have lt12963 : b12921 < bs12959 := hlv12962.1 _ (List.mem_of_getElem? (i := 2) rfl) _ (by simp [Itm.ids])
  refine e_lookB rfl trivial rfl (by show b12921 < _; omega) (same1 (v := v12924) (RS.sim1 q12923)) (o_ldb (v := v12924) hS12961 (i := 2) rfl rfl (by kernel_rfl)) trivial ?_
  refine yq 1 [(84, V x12929), (83, v12924), (2, Pt b12918 0), (3, Pt b12919 0), (5, V x12920), (6, Pt b12921 0), (7, Pt b12925 0), (8, V x12929)] ?_
  obtain ⟨hc12964, ho12915⟩ := chk ho12915
  refine e_val rfl trivial (o_index rfl rfl (by kernel_rfl : slTy _ _ = some (csz Int)) (RS.based q12923 (by omega)) hc12964.1 hc12964.2) ?_
  obtain ⟨x12965, hx12966, ho12915⟩ := obind ho12915
  obtain ⟨cs12967, hc12968, he12969⟩ := RS.elz q12923 (i := x12929) hx12966
  obtain rfl := rc_Int hc12968
  refine e_lookZ rfl rfl trivial (fun h2 hz => o_lde (w := V x12965) (he12969 h2 hz) rfl (by kernel_rfl)) (hS12961.zin0 (Zle.refl _)) (same1 (v := V x12965) trivial) trivial ?_
  refine yq 1 [(87, Pt b12925 4), (86, V x12965), (2, Pt b12918 0), (3, Pt b12919 0), (5, V x12920), (6, Pt b12921 0), (7, Pt b12925 0), (8, V x12929)] ?_
  have lt12971 : b12925 < bs12959 := hlv12962.1 _ (List.mem_of_getElem? (i := 3) rfl) _ (by simp [Itm.ids])
  refine e_lookB rfl trivial rfl (by show b12925 < _; omega) (same1 (v := v12928) (RS.sim1 q12927)) (o_ldb (v := v12928) hS12961 (i := 3) rfl rfl (by kernel_rfl)) trivial ?_
  refine yq 1 [(89, V x12929), (88, v12928), (86, V x12965), (2, Pt b12918 0), (3, Pt b12919 0), (5, V x12920), (6, Pt b12921 0), (7, Pt b12925 0), (8, V x12929)] ?_
  obtain ⟨hc12972, ho12915⟩ := chk ho12915
  refine e_val rfl trivial (o_index rfl rfl (by kernel_rfl : slTy _ _ = some (csz Int)) (RS.based q12927 (by omega)) hc12972.1 hc12972.2) ?_
  obtain ⟨x12973, hx12974, ho12915⟩ := obind ho12915
  obtain ⟨cs12975, hc12976, he12977⟩ := RS.elz q12927 (i := x12929) hx12974
  obtain rfl := rc_Int hc12976
  refine e_lookZ rfl rfl trivial (fun h2 hz => o_lde (w := V x12973) (he12977 h2 hz) rfl (by kernel_rfl)) (hS12961.zin0 (Zle.refl _)) (same1 (v := V x12973) trivial) trivial ?_
  rcases ifs ho12915 with ⟨hp12979, ho12915⟩ | ⟨hp12979, ho12915⟩
  refine e_val rfl trivial (o_cmp rfl rfl (c_neq_F hp12979)) ?_
  refine yf [(92, .bool false), (2, Pt b12918 0), (3, Pt b12919 0), (5, V x12920), (6, Pt b12921 0), (7, Pt b12925 0), (8, V x12929)] ?_
  have hS12980 := hS12961.unres
  refine kF 92 rfl ?_
  refine rg r17_11 ?_
  refine xe 3 [(8, V (w64 (x12929 + 1))), (2, Pt b12918 0), (3, Pt b12919 0), (5, V x12920), (6, Pt b12921 0), (7, Pt b12925 0)] ?_
  exact ⟨n12932, Nat.lt_succ_self _, ⟨_, x12920, x12922, x12926, w64 (x12929 + 1), b12918, b12919, b12921, v12924, b12925, v12928, ho12915, q12923, q12927, rfl, hS12980⟩⟩
  refine e_val rfl trivial (o_cmp rfl rfl (c_neq_T hp12979)) ?_
  refine yf [(92, .bool true), (2, Pt b12918 0), (3, Pt b12919 0), (5, V x12920), (6, Pt b12921 0), (7, Pt b12925 0), (8, V x12929)] ?_
  have hS12981 := hS12961.unres
  refine cT 92 rfl ?_
  refine sr r17_13 ?_
  refine xe 1 [(4, .bool false)] ?_
  refine rt ?_
  refine blkX_ret ?_
  refine blkX_ret ?_
  refine blkX_ret ?_
  refine blkX_ret ?_
  refine ⟨rfl, ?_⟩
  obtain rfl := Option.some.inj ho12915
  obtain rfl := Option.some.inj ho12704
  obtain rfl := Option.some.inj hm
  refine ⟨_, _, _, ResL.tmp rfl (ResL.nil), hS12981, ?_⟩
  exact rfl
  refine r_step rfl trivial (o_cmp rfl rfl (c_lss_F hp12935)) ?_
  refine xf [(79, .bool false), (2, Pt b12918 0), (3, Pt b12919 0), (5, V x12920), (6, Pt b12921 0), (7, Pt b12925 0), (8, V x12929)] ?_
  refine cF 79 rfl ?_
  refine xt 2 ?_
  refine blkX_hit ?_
  obtain rfl := Option.some.inj ho12915
  exact ⟨_, x12920, b12918, b12919, rfl, rfl, (hS12931.takeN 2)⟩
  refine sr r17_7 ?_
  refine xq 1 [(33, Pt b12740 0), (7, Pt b12744 0), (6, Pt b12740 0), (2, Pt b12707 0), (3, Pt b12708 0), (5, V x12709)] ?_
  refine r_step rfl trivial (o_ldb (v := V x12722.Kind) hS12754 (i := 1) rfl rfl (by kernel_rfl)) ?_
  refine xq 1 [(35, Pt b12744 0), (34, V x12722.Kind), (7, Pt b12744 0), (6, Pt b12740 0), (2, Pt b12707 0), (3, Pt b12708 0), (5, V x12709)] ?_
  refine r_step rfl trivial (o_ldb (v := V x12732.Kind) hS12754 (i := 0) rfl rfl (by kernel_rfl)) ?_
  rcases ifs ho12764 with ⟨hp12766, ho12764⟩ | ⟨hp12766, ho12764⟩
  refine r_step rfl trivial (o_cmp rfl rfl (c_neq_F hp12766)) ?_
  refine xq 2 [(39, Pt b12740 1), (38, .bool false), (7, Pt b12744 0), (6, Pt b12740 0), (2, Pt b12707 0), (3, Pt b12708 0), (5, V x12709)] ?_
  refine r_step rfl rfl (o_ldb (v := V x12722.From) hS12754 (i := 1) rfl rfl (by kernel_rfl)) ?_
  refine xq 1 [(41, Pt b12744 1), (40, V x12722.From), (38, .bool false), (7, Pt b12744 0), (6, Pt b12740 0), (2, Pt b12707 0), (3, Pt b12708 0), (5, V x12709)] ?_
  refine r_step rfl rfl (o_ldb (v := V x12732.From) hS12754 (i := 0) rfl rfl (by kernel_rfl)) ?_
  rcases ifs ho12764 with ⟨hp12767, ho12764⟩ | ⟨hp12767, ho12764⟩
  refine r_step rfl rfl (o_cmp rfl rfl (c_neq_F hp12767)) ?_
  refine xq 3 [(46, Pt b12740 2), (45, .bool false), (7, Pt b12744 0), (6, Pt b12740 0), (2, Pt b12707 0), (3, Pt b12708 0), (5, V x12709)] ?_
  refine r_step rfl rfl (o_ldb (v := V x12722.To) hS12754 (i := 1) rfl rfl (by kernel_rfl)) ?_
  refine xq 1 [(48, Pt b12744 2), (47, V x12722.To), (45, .bool false), (7, Pt b12744 0), (6, Pt b12740 0), (2, Pt b12707 0), (3, Pt b12708 0), (5, V x12709)] ?_
  refine r_step rfl rfl (o_ldb (v := V x12732.To) hS12754 (i := 0) rfl rfl (by kernel_rfl)) ?_
  rcases ifs ho12764 with ⟨hp12768, ho12764⟩ | ⟨hp12768, ho12764⟩
  refine r_step rfl rfl (o_cmp rfl rfl (c_neq_F hp12768)) ?_
  refine xq 3 [(53, Pt b12740 3), (52, .bool false), (7, Pt b12744 0), (6, Pt b12740 0), (2, Pt b12707 0), (3, Pt b12708 0), (5, V x12709)] ?_
  refine r_step rfl rfl (o_ldb (v := V x12722.Up) hS12754 (i := 1) rfl rfl (by kernel_rfl)) ?_
  refine xq 1 [(55, Pt b12744 3), (54, V x12722.Up), (52, .bool false), (7, Pt b12744 0), (6, Pt b12740 0), (2, Pt b12707 0), (3, Pt b12708 0), (5, V x12709)] ?_
  refine r_step rfl rfl (o_ldb (v := V x12732.Up) hS12754 (i := 0) rfl rfl (by kernel_rfl)) ?_
  rcases ifs ho12764 with ⟨hp12769, ho12764⟩ | ⟨hp12769, ho12764⟩
  refine r_step rfl rfl (o_cmp rfl rfl (c_neq_F hp12769)) ?_
  refine xq 3 [(60, Pt b12740 5), (59, .bool false), (7, Pt b12744 0), (6, Pt b12740 0), (2, Pt b12707 0), (3, Pt b12708 0), (5, V x12709)] ?_
  refine r_step rfl rfl (o_ldb (v := .bool x12722.Key) hS12754 (i := 1) rfl rfl (by kernel_rfl)) ?_
  refine xq 1 [(62, Pt b12744 5), (61, .bool x12722.Key), (59, .bool false), (7, Pt b12744 0), (6, Pt b12740 0), (2, Pt b12707 0), (3, Pt b12708 0), (5, V x12709)] ?_
  refine r_step rfl rfl (o_ldb (v := .bool x12732.Key) hS12754 (i := 0) rfl rfl (by kernel_rfl)) ?_
  rcases ifs ho12764 with ⟨hp12770, ho12764⟩ | ⟨hp12770, ho12764⟩
  refine r_setb (t := 61) rfl hp12770 ?_
  rcases ifs ho12764 with ⟨hp12771, ho12764⟩ | ⟨hp12771, ho12764⟩
  refine r_setb (t := 63) rfl hp12771 ?_
  refine r_step rfl rfl (o_cmp (w := false) rfl rfl (by kernel_rfl)) ?_
  refine xq 3 [(67, Pt b12740 4), (66, .bool false), (7, Pt b12744 0), (6, Pt b12740 0), (2, Pt b12707 0), (3, Pt b12708 0), (5, V x12709)] ?_
  refine r_step rfl rfl (o_ldb (v := v12728) hS12754 (i := 1) rfl rfl (by kernel_rfl)) ?_
  refine r_step rfl rfl (o_len rfl (RS.len q12729) ⟨_, Go.Proofs.Try.underlying44⟩) ?_
  refine xq 1 [(70, Pt b12744 4), (69, V (x12722.Kids.length : Int)), (66, .bool false), (7, Pt b12744 0), (6, Pt b12740 0), (2, Pt b12707 0), (3, Pt b12708 0), (5, V x12709)] ?_
  refine r_step rfl rfl (o_ldb (v := v12738) hS12754 (i := 0) rfl rfl (by kernel_rfl)) ?_
  refine r_step rfl rfl (o_len rfl (RS.len q12739) ⟨_, Go.Proofs.Try.underlying44⟩) ?_
  rcases ifs ho12764 with ⟨hp12772, ho12764⟩ | ⟨hp12772, ho12764⟩
  refine r_step rfl rfl (o_cmp rfl rfl (c_neq_F hp12772)) ?_
  refine xe 1 [(74, .bool false), (7, Pt b12744 0), (6, Pt b12740 0), (2, Pt b12707 0), (3, Pt b12708 0), (5, V x12709)] ?_
  refine kF 74 rfl ?_
  obtain rfl := Option.some.inj ho12764
  exact ⟨_, x12722, x12732, b12707, b12708, b12740, v12728, b12744, v12738, rfl, q12729, q12739, rfl, ((((hS12754.front 0 rfl).front 1 rfl).front 3 rfl).front 3 rfl)⟩
  refine r_step rfl rfl (o_cmp rfl rfl (c_neq_T hp12772)) ?_
  refine xe 1 [(74, .bool true), (7, Pt b12744 0), (6, Pt b12740 0), (2, Pt b12707 0), (3, Pt b12708 0), (5, V x12709)] ?_
  refine cT 74 rfl ?_
  refine sr r17_8 ?_
  refine xe 1 [(4, .bool false)] ?_
  refine rt ?_
  refine blkX_ret ?_
  refine blkX_ret ?_
  refine ⟨rfl, ?_⟩
  obtain rfl := Option.some.inj ho12764
  obtain rfl := Option.some.inj ho12704
  obtain rfl := Option.some.inj hm
  refine ⟨_, _, _, ResL.tmp rfl (ResL.nil), hS12754, ?_⟩
  exact rfl
  refine r_setb (t := 63) rfl (Bool.eq_false_iff.2 hp12771) ?_
  refine r_step rfl rfl (o_cmp (w := true) rfl rfl (by kernel_rfl)) ?_
  refine xe 10 [(74, .bool true), (7, Pt b12744 0), (6, Pt b12740 0), (2, Pt b12707 0), (3, Pt b12708 0), (5, V x12709)] ?_
  refine cT 74 rfl ?_
  refine sr r17_8 ?_
  refine xe 1 [(4, .bool false)] ?_
  refine rt ?_
  refine blkX_ret ?_
  refine blkX_ret ?_
  refine ⟨rfl, ?_⟩
  obtain rfl := Option.some.inj ho12764
  obtain rfl := Option.some.inj ho12704
  obtain rfl := Option.some.inj hm
  refine ⟨_, _, _, ResL.tmp rfl (ResL.nil), hS12754, ?_⟩
  exact rfl
  refine r_setb (t := 61) rfl (Bool.eq_false_iff.2 hp12770) ?_
  rcases ifs ho12764 with ⟨hp12773, ho12764⟩ | ⟨hp12773, ho12764⟩
  refine r_setb (t := 63) rfl hp12773 ?_
  refine r_step rfl rfl (o_cmp (w := true) rfl rfl (by kernel_rfl)) ?_
  refine xe 10 [(74, .bool true), (7, Pt b12744 0), (6, Pt b12740 0), (2, Pt b12707 0), (3, Pt b12708 0), (5, V x12709)] ?_
  refine cT 74 rfl ?_
  refine sr r17_8 ?_
  refine xe 1 [(4, .bool false)] ?_
  refine rt ?_
  refine blkX_ret ?_
  refine blkX_ret ?_
  refine ⟨rfl, ?_⟩
  obtain rfl := Option.some.inj ho12764
  obtain rfl := Option.some.inj ho12704
  obtain rfl := Option.some.inj hm
  refine ⟨_, _, _, ResL.tmp rfl (ResL.nil), hS12754, ?_⟩
  exact rfl
  refine r_setb (t := 63) rfl (Bool.eq_false_iff.2 hp12773) ?_
  refine r_step rfl rfl (o_cmp (w := false) rfl rfl (by kernel_rfl)) ?_
  refine xq 3 [(67, Pt b12740 4), (66, .bool false), (7, Pt b12744 0), (6, Pt b12740 0), (2, Pt b12707 0), (3, Pt b12708 0), (5, V x12709)] ?_
  refine r_step rfl rfl (o_ldb (v := v12728) hS12754 (i := 1) rfl rfl (by kernel_rfl)) ?_
  refine r_step rfl rfl (o_len rfl (RS.len q12729) ⟨_, Go.Proofs.Try.underlying44⟩) ?_
  refine xq 1 [(70, Pt b12744 4), (69, V (x12722.Kids.length : Int)), (66, .bool false), (7, Pt b12744 0), (6, Pt b12740 0), (2, Pt b12707 0), (3, Pt b12708 0), (5, V x12709)] ?_
  refine r_step rfl rfl (o_ldb (v := v12738) hS12754 (i := 0) rfl rfl (by kernel_rfl)) ?_
  refine r_step rfl rfl (o_len rfl (RS.len q12739) ⟨_, Go.Proofs.Try.underlying44⟩) ?_
  rcases ifs ho12764 with ⟨hp12774, ho12764⟩ | ⟨hp12774, ho12764⟩
  refine r_step rfl rfl (o_cmp rfl rfl (c_neq_F hp12774)) ?_
  refine xe 1 [(74, .bool false), (7, Pt b12744 0), (6, Pt b12740 0), (2, Pt b12707 0), (3, Pt b12708 0), (5, V x12709)] ?_
  refine kF 74 rfl ?_
  obtain rfl := Option.some.inj ho12764
  exact ⟨_, x12722, x12732, b12707, b12708, b12740, v12728, b12744, v12738, rfl, q12729, q12739, rfl, ((((hS12754.front 0 rfl).front 1 rfl).front 3 rfl).front 3 rfl)⟩
  refine r_step rfl rfl (o_cmp rfl rfl (c_neq_T hp12774)) ?_
  refine xe 1 [(74, .bool true), (7, Pt b12744 0), (6, Pt b12740 0), (2, Pt b12707 0), (3, Pt b12708 0), (5, V x12709)] ?_
  refine cT 74 rfl ?_
  refine sr r17_8 ?_
  refine xe 1 [(4, .bool false)] ?_
  refine rt ?_
  refine blkX_ret ?_
  refine blkX_ret ?_
  refine ⟨rfl, ?_⟩
  obtain rfl := Option.some.inj ho12764
  obtain rfl := Option.some.inj ho12704
  obtain rfl := Option.some.inj hm
  refine ⟨_, _, _, ResL.tmp rfl (ResL.nil), hS12754, ?_⟩
  exact rfl
  refine r_step rfl rfl (o_cmp rfl rfl (c_neq_T hp12769)) ?_
  refine xe 17 [(74, .bool true), (7, Pt b12744 0), (6, Pt b12740 0), (2, Pt b12707 0), (3, Pt b12708 0), (5, V x12709)] ?_
  refine cT 74 rfl ?_
  refine sr r17_8 ?_
  refine xe 1 [(4, .bool false)] ?_
  refine rt ?_
  refine blkX_ret ?_
  refine blkX_ret ?_
  refine ⟨rfl, ?_⟩
  obtain rfl := Option.some.inj ho12764
  obtain rfl := Option.some.inj ho12704
  obtain rfl := Option.some.inj hm
  refine ⟨_, _, _, ResL.tmp rfl (ResL.nil), hS12754, ?_⟩
  exact rfl
  refine r_step rfl rfl (o_cmp rfl rfl (c_neq_T hp12768)) ?_
  refine xe 24 [(74, .bool true), (7, Pt b12744 0), (6, Pt b12740 0), (2, Pt b12707 0), (3, Pt b12708 0), (5, V x12709)] ?_
  refine cT 74 rfl ?_
  refine sr r17_8 ?_
  refine xe 1 [(4, .bool false)] ?_
  refine rt ?_
  refine blkX_ret ?_
  refine blkX_ret ?_
  refine ⟨rfl, ?_⟩
  obtain rfl := Option.some.inj ho12764
  obtain rfl := Option.some.inj ho12704
  obtain rfl := Option.some.inj hm
  refine ⟨_, _, _, ResL.tmp rfl (ResL.nil), hS12754, ?_⟩
  exact rfl
  refine r_step rfl rfl (o_cmp rfl rfl (c_neq_T hp12767)) ?_
  refine xe 31 [(74, .bool true), (7, Pt b12744 0), (6, Pt b12740 0), (2, Pt b12707 0), (3, Pt b12708 0), (5, V x12709)] ?_
  refine cT 74 rfl ?_
  refine sr r17_8 ?_
  refine xe 1 [(4, .bool false)] ?_
  refine rt ?_
  refine blkX_ret ?_
  refine blkX_ret ?_
  refine ⟨rfl, ?_⟩
  obtain rfl := Option.some.inj ho12764
  obtain rfl := Option.some.inj ho12704
  obtain rfl := Option.some.inj hm
  refine ⟨_, _, _, ResL.tmp rfl (ResL.nil), hS12754, ?_⟩
  exact rfl
  refine r_step rfl trivial (o_cmp rfl rfl (c_neq_T hp12766)) ?_
  refine xe 37 [(74, .bool true), (7, Pt b12744 0), (6, Pt b12740 0), (2, Pt b12707 0), (3, Pt b12708 0), (5, V x12709)] ?_
  refine cT 74 rfl ?_
  refine sr r17_8 ?_
  refine xe 1 [(4, .bool false)] ?_
  refine rt ?_
  refine blkX_ret ?_
  refine blkX_ret ?_
  refine ⟨rfl, ?_⟩
  obtain rfl := Option.some.inj ho12764
  obtain rfl := Option.some.inj ho12704
  obtain rfl := Option.some.inj hm
  refine ⟨_, _, _, ResL.tmp rfl (ResL.nil), hS12754, ?_⟩
  exact rfl
  refine r_step rfl trivial (o_cmp rfl rfl (c_lss_F hp12715)) ?_
  refine xf [(20, .bool false), (2, Pt b12707 0), (3, Pt b12708 0), (5, V x12709)] ?_
  refine cF 20 rfl ?_
  refine xt 0 ?_
  refine blkX_hit ?_
  obtain rfl := Option.some.inj ho12704
  exact ⟨_, rfl, rfl, (hS12711.takeN 0)⟩
  refine r_step rfl trivial (o_cmp rfl rfl (c_neq_T hp12301)) ?_
  refine xf [(15, .bool true), (3, Pt b12296 0), (2, Pt b12293 0)] ?_
  refine cT 15 rfl ?_
  refine sr r17_2 ?_
  refine xe 1 [(4, .bool false)] ?_
  refine rt ?_
  refine ⟨rfl, ?_⟩
  obtain rfl := Option.some.inj hm
  refine ⟨_, _, _, ResL.tmp rfl (ResL.nil), hS12298, ?_⟩
  exact rfl

end Go.Proofs.Ytpijjenaadkjdaa.M
