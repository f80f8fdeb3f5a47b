/- Printed by a program of this session: Go functions as Lean functions over plain data, and that the calls come to them. -/
import Derived.Test.YtpijjenaadkjdaaSyK
import Derived.Test.YtpijjenaadkjdaaChecked
import Derived.KernelRfl
namespace Go.Proofs.Ytpijjenaadkjdaa.M
open Go Am Sy
open Sy.Cell (rc)
set_option linter.unusedVariables false
set_option linter.unusedSimpArgs false
set_option maxRecDepth 20000

structure api_Node where
  Kind : Int
  From : Int
  To : Int
  Up : Int
  Kids : List Int
  Key : Bool
  deriving DecidableEq, Inhabited
instance : Cell api_Node where
  size := 6
  rc Z cs x := ∃ v4, RS (α := Int) Z v4 x.Kids ∧ cs = [V x.Kind, V x.From, V x.To, V x.Up, v4, .bool x.Key]
  len h := by obtain ⟨v4, qv4, h⟩ := h; rw [h]; rfl
  mono hz h := by obtain ⟨v4, qv4, h⟩ := h; exact ⟨v4, qv4.mono hz, h⟩
  one h := by obtain ⟨v4, qv4, h⟩ := h; subst h; exact (one_cons rfl (one_cons rfl (one_cons rfl (one_cons rfl (one_cons qv4.one1 (one_cons rfl one_nil))))))
  pos := by decide
instance : DCell api_Node Int where
  row x := x.Kids
  drc v cs x := cs = [V x.Kind, V x.From, V x.To, V x.Up, v, .bool x.Key]
  rcd h hd := ⟨_, h, hd⟩
  dlen h := by rw [h]; rfl
  done hv h := by subst h; exact (one_cons rfl (one_cons rfl (one_cons rfl (one_cons rfl (one_cons hv (one_cons rfl one_nil))))))
  inj h k := by rw [h] at k; simpa using k
  fn h k := h.trans k.symm
theorem drc_api_Node {v : Value} {cs : List Value} {x : api_Node} (h : DCell.drc v cs x) : cs = [V x.Kind, V x.From, V x.To, V x.Up, v, .bool x.Key] := h
theorem rc_api_Node {Z : Zn} {cs : List Value} {x : api_Node} (h : rc Z cs x) : ∃ v4, RS (α := Int) Z v4 x.Kids ∧ cs = [V x.Kind, V x.From, V x.To, V x.Up, v4, .bool x.Key] := h
abbrev K46 (v0 : Value) (x : api_Node) : List Value := [V x.Kind, V x.From, V x.To, V x.Up, v0, .bool x.Key]
structure arena_Tree where
  Nodes : List api_Node
  deriving DecidableEq, Inhabited
instance : Cell arena_Tree where
  size := 1
  rc Z cs x := ∃ v0, RS (α := api_Node) Z v0 x.Nodes ∧ cs = [v0]
  len h := by obtain ⟨v0, qv0, h⟩ := h; rw [h]; rfl
  mono hz h := by obtain ⟨v0, qv0, h⟩ := h; exact ⟨v0, qv0.mono hz, h⟩
  one h := by obtain ⟨v0, qv0, h⟩ := h; subst h; exact (one_cons qv0.one1 one_nil)
  pos := by decide
instance : DCell arena_Tree api_Node where
  row x := x.Nodes
  drc v cs x := cs = [v]
  rcd h hd := ⟨_, h, hd⟩
  dlen h := by rw [h]; rfl
  done hv h := by subst h; exact (one_cons hv one_nil)
  inj h k := by rw [h] at k; simpa using k
  fn h k := h.trans k.symm
theorem drc_arena_Tree {v : Value} {cs : List Value} {x : arena_Tree} (h : DCell.drc v cs x) : cs = [v] := h
theorem rc_arena_Tree {Z : Zn} {cs : List Value} {x : arena_Tree} (h : rc Z cs x) : ∃ v0, RS (α := api_Node) Z v0 x.Nodes ∧ cs = [v0] := h
abbrev K27 (v0 : Value) (x : arena_Tree) : List Value := [v0]
structure arena_forest where
  Tree : arena_Tree
  deriving DecidableEq, Inhabited
instance : Cell arena_forest where
  size := 1
  rc Z cs x := ∃ v0, RS (α := api_Node) Z v0 x.Tree.Nodes ∧ cs = [v0]
  len h := by obtain ⟨v0, qv0, h⟩ := h; rw [h]; rfl
  mono hz h := by obtain ⟨v0, qv0, h⟩ := h; exact ⟨v0, qv0.mono hz, h⟩
  one h := by obtain ⟨v0, qv0, h⟩ := h; subst h; exact (one_cons qv0.one1 one_nil)
  pos := by decide
instance : DCell arena_forest api_Node where
  row x := x.Tree.Nodes
  drc v cs x := cs = [v]
  rcd h hd := ⟨_, h, hd⟩
  dlen h := by rw [h]; rfl
  done hv h := by subst h; exact (one_cons hv one_nil)
  inj h k := by rw [h] at k; simpa using k
  fn h k := h.trans k.symm
theorem drc_arena_forest {v : Value} {cs : List Value} {x : arena_forest} (h : DCell.drc v cs x) : cs = [v] := h
theorem rc_arena_forest {Z : Zn} {cs : List Value} {x : arena_forest} (h : rc Z cs x) : ∃ v0, RS (α := api_Node) Z v0 x.Tree.Nodes ∧ cs = [v0] := h
abbrev K58 (v0 : Value) (x : arena_forest) : List Value := [v0]

def r10_0 : List COp := [u 2 (.alloc 27)]
def r10_1 : List COp := [u 3 (.move (t 0)), u 4 (.binOp .lss 3 (t 3) (ci 0) 3), u 5 (.move (t 4)), gN 5 (some 6) (.move (t 0)), gN 5 (some 7) (.binOp .gtr 3 (t 6) (ci 32768) 3), u 8 (.pick (t 5) (.const (.bool true)) (t 7))]
def r10_2 : List COp := [u 0 (.assign (ci 0))]
def r10_3 : List COp := [u 9 (.move (t 0)), u 10 (.build 46 #[(0, (ci 1)), (2, (t 9)), (3, (ci (-1)))]), u 11 (.buildSlice 25 1 #[(0, (t 10))]), u 12 (.build 27 #[(0, (t 11))]), o (.store 27 (t 2) (t 12))]
def arena_New (F : Nat) (a0 : Int) : Option arena_Tree :=
  ((if a0 < (0 : Int) then
      some 0
    else
      if (32768 : Int) < a0 then
        some 0
      else
        some a0) : Option Int).bind fun o => match o with
    | x31 => some (⟨[(⟨1, 0, x31, (-1), [], false⟩ : api_Node)]⟩ : arena_Tree)
theorem arena_New_ok (F : Nat) {h : AH} {Z : Zn} {a0 : Int} (hP : Pre Z h []) {r : arena_Tree} (hm : arena_New F a0 = some r) :
    ∃ v h' Z' A', callI Go.Proofs.Try.prog 10 [V a0] h = some (v, h') ∧ St h (idsL []) Z (0, 0) Z' h' A' ∧ ∃ v19 : Value, ∃ c20 : List Value, .agg #[v19] = v ∧ A' = [.gs v19 c20 (csz api_Node)] ∧ RCs (α := api_Node) Z' c20 r.Nodes := by
  refine fn_intro (A := []) (Q := fun v Z' A' => ∃ v19 : Value, ∃ c20 : List Value, .agg #[v19] = v ∧ A' = [.gs v19 c20 (csz api_Node)] ∧ RCs (α := api_Node) Z' c20 r.Nodes) Go.Proofs.Try.func10 rfl rfl (by kernel_rfl) hP ?_
  intro hs hS
  unfold arena_New at hm
  replace hS : St hs [] Z (0, 0) Z hs [] := hS
  refine sr r10_0 ?_
  refine r_blk rfl trivial (o_alloc (cs := [.slice none 0 0]) (by kernel_rfl)) hS ?_
  intro b21 h22 hS23
  refine xf [(2, Pt b21 0), (0, V a0)] ?_
  refine sq ?_
  obtain ⟨o27, ho26, hm⟩ := obind hm
  refine W_seqJoin0 [0, 2] (fun l h => ∃ Z30 : Zn, ∃ x31 : Int, ∃ b32 : Nat, x31 = o27 ∧ l = [(0, V x31), (2, Pt b32 0)] ∧ St hs [] Z (0, 0) Z30 h [.blk b32 [.slice none 0 0]]) (by kernel_rfl) ?_ ?_
  rintro l h33 ⟨Z30, x31, b32, rfl, rfl, hS34⟩
  try dsimp only at hm
  refine sr r10_3 ?_
  refine xq 2 [(10, .agg #[V 1, V 0, V x31, V (-1), .slice none 0 0, .bool false]), (2, Pt b32 0)] ?_
  have q38 : RCs (α := api_Node) Z30 [V 1, V 0, V x31, V (-1), .slice none 0 0, .bool false] [(⟨1, 0, x31, (-1), [], false⟩ : api_Node)] := RCs.cons (cs := [V 1, V 0, V x31, V (-1), .slice none 0 0, .bool false]) ⟨_, (RS.nil0 _), rfl⟩ (RCs.nil0 _)
  refine r_row rfl trivial (o_bs (cells := [V 1, V 0, V x31, V (-1), .slice none 0 0, .bool false]) (s := 6) (by kernel_rfl)) (by kernel_rfl) hS34 ?_
  intro v35 h36 hS37
  replace hS37 : St _ _ _ _ _ _ [.gs v35 [V 1, V 0, V x31, V (-1), .slice none 0 0, .bool false] (csz api_Node), .blk b32 [.slice none 0 0]] := hS37
  refine r_step rfl trivial (o_build (v := .agg #[v35]) rfl (CA.cons (cs := [v35]) (hS37.gcell1 (i := 0) rfl) (CA.nil0)) (by kernel_rfl)) ?_
  refine r_ex1 rfl trivial (o_stb (vs := [v35]) (cells' := [v35]) (L' := [.gs v35 [V 1, V 0, V x31, V (-1), .slice none 0 0, .bool false] (csz api_Node), .blk b32 [v35]]) hS37 (i := 1) rfl rfl rfl rfl (by kernel_rfl) (one_cons (hS37.gone1 (i := 0) rfl) one_nil) rfl rfl rfl) ?_
  intro h40 hS41
  refine xf [(2, Pt b32 0)] ?_
  refine rt ?_
  refine ⟨rfl, ?_⟩
  obtain rfl := Option.some.inj hm
  refine ⟨_, _, _, ResL.cell (v := .agg #[v35]) rfl hS41 (i := 1) rfl (by kernel_rfl) (ResL.nil), (hS41.takeN 1), ?_⟩
  exact ⟨v35, [V 1, V 0, V x31, V (-1), .slice none 0 0, .bool false], rfl, rfl, q38⟩
  refine rg r10_1 ?_
  refine xq 1 [(3, V a0), (2, Pt b21 0), (0, V a0)] ?_
  rcases ifs ho26 with ⟨hp28, ho26⟩ | ⟨hp28, ho26⟩
  refine r_step rfl trivial (o_cmp rfl rfl (c_lss_T hp28)) ?_
  refine xe 4 [(8, .bool true), (2, Pt b21 0), (0, V a0)] ?_
  refine cT 8 rfl ?_
  refine rg r10_2 ?_
  refine xe 1 [(0, V 0), (2, Pt b21 0)] ?_
  obtain rfl := Option.some.inj ho26
  exact ⟨_, 0, b21, rfl, rfl, hS23⟩
  refine r_step rfl trivial (o_cmp rfl rfl (c_lss_F hp28)) ?_
  refine xq 2 [(6, V a0), (5, .bool false), (2, Pt b21 0), (0, V a0)] ?_
  rcases ifs ho26 with ⟨hp29, ho26⟩ | ⟨hp29, ho26⟩
  refine r_step rfl rfl (o_cmp rfl rfl (c_gtr_T hp29)) ?_
  refine xe 1 [(8, .bool true), (2, Pt b21 0), (0, V a0)] ?_
  refine cT 8 rfl ?_
  refine rg r10_2 ?_
  refine xe 1 [(0, V 0), (2, Pt b21 0)] ?_
  obtain rfl := Option.some.inj ho26
  exact ⟨_, 0, b21, rfl, rfl, hS23⟩
  refine r_step rfl rfl (o_cmp rfl rfl (c_gtr_F hp29)) ?_
  refine xe 1 [(8, .bool false), (2, Pt b21 0), (0, V a0)] ?_
  refine kF 8 rfl ?_
  obtain rfl := Option.some.inj ho26
  exact ⟨_, a0, b21, rfl, rfl, hS23⟩

def r35_0 : List COp := [u 2 (.assign (.const (.slice none 0 0)))]
def r35_1 : List COp := [u 3 (.move (t 0)), u 4 (.binOp .eql 25 (t 3) (.const (.slice none 0 0)) 25)]
def r35_2 : List COp := [u 2 (.assign (.const (.slice none 0 0)))]
def r35_3 : List COp := [u 5 (.buildSlice 25 0 #[]), u 6 (.move (t 0)), u 7 (cb .append #[(t 5), (t 6)] #[25, 25]), u 2 (.assign (t 7))]
def slices_Clone_api_Node (F : Nat) (a0 : List api_Node) : Option (List api_Node) :=
  if ([] : List api_Node).length + a0.length ≤ 2199023255552 then
    some (([] : List api_Node) ++ a0)
  else none
theorem slices_Clone_api_Node_ok (F : Nat) {h : AH} {Z : Zn} {a0 : List api_Node} {v58 : Value} (hP : Pre Z h []) (q57 : RS (α := api_Node) Z v58 a0) {r : (List api_Node)} (hm : slices_Clone_api_Node F a0 = some r) :
    ∃ v h' Z' A', callI Go.Proofs.Try.prog 35 [v58] h = some (v, h') ∧ St h (idsL []) Z (0, 0) Z' h' A' ∧ ∃ v77 : Value, ∃ c78 : List Value, v77 = v ∧ A' = [.gs v77 c78 (csz api_Node)] ∧ RCs (α := api_Node) Z' c78 r := by
  refine fn_intro (A := []) (Q := fun v Z' A' => ∃ v77 : Value, ∃ c78 : List Value, v77 = v ∧ A' = [.gs v77 c78 (csz api_Node)] ∧ RCs (α := api_Node) Z' c78 r) Go.Proofs.Try.func35 rfl rfl (by kernel_rfl) hP ?_
  intro hs hS
  unfold slices_Clone_api_Node at hm
  replace hS : St hs [] Z (0, 0) Z hs [] := hS
  refine sr r35_0 ?_
  refine xe 1 [(0, v58)] ?_
  refine sq ?_
  refine sr r35_1 ?_
  refine xq 1 [(3, v58), (0, v58)] ?_
  rcases nil_or q57 with ⟨hn81, hv82⟩ | hv82
  replace hm : some [] = some r := by rw [hn81] at hm; simpa using hm
  refine r_step rfl trivial (o_cmp rfl rfl (c_nilT ⟨_, Go.Proofs.Try.underlying25⟩ hv82)) ?_
  refine xf [(4, .bool true), (0, v58)] ?_
  refine cT 4 rfl ?_
  refine sr r35_2 ?_
  refine xe 1 [(2, .slice none 0 0)] ?_
  refine rt ?_
  refine ⟨rfl, ?_⟩
  have hS83 := hS.nilGs (csz api_Node)
  obtain rfl := Option.some.inj hm
  refine ⟨_, _, _, ResL.tmp rfl (ResL.nil), hS83, ?_⟩
  exact ⟨(.slice none 0 0), [], rfl, rfl, (RCs.nil0 _)⟩
  refine r_step rfl trivial (o_cmp rfl rfl (c_nilF ⟨_, Go.Proofs.Try.underlying25⟩ hv82)) ?_
  refine xf [(4, .bool false), (0, v58)] ?_
  refine kF 4 rfl ?_
  refine sr r35_3 ?_
  have q88 : RCs (α := api_Node) Z [] [] := RCs.nil0 _
  refine r_row rfl trivial (o_bs (cells := []) (s := 6) (by kernel_rfl)) (by kernel_rfl) hS ?_
  intro v85 h86 hS87
  replace hS87 : St _ _ _ _ _ _ [.gs v85 [] (csz api_Node)] := hS87
  refine xq 1 [(6, v58), (5, v85)] ?_
  obtain ⟨c91, nw90⟩ := RS.news q57 (hS87).inv
  obtain ⟨hc97, hm⟩ := chk hm
  refine r_ex3 rfl trivial (o_app (ys := a0) (by_ := 64) hS87 (i := 0) rfl q88 nw90 rfl rfl (by kernel_rfl) (by omega) (by omega)) ?_
  rintro v92 c93 h94 ⟨q96, hS95⟩
  replace hS95 : St _ _ _ _ _ _ [.gs v92 c93 (csz api_Node)] := hS95
  refine xe 1 [(2, v92)] ?_
  refine rt ?_
  refine ⟨rfl, ?_⟩
  obtain rfl := Option.some.inj hm
  refine ⟨_, _, _, ResL.tmp rfl (ResL.nil), hS95, ?_⟩
  exact ⟨v92, c93, rfl, rfl, q96⟩

def r36_0 : List COp := [u 2 (.assign (.const (.slice none 0 0)))]
def r36_1 : List COp := [u 3 (.move (t 0)), u 4 (.binOp .eql 44 (t 3) (.const (.slice none 0 0)) 44)]
def r36_2 : List COp := [u 2 (.assign (.const (.slice none 0 0)))]
def r36_3 : List COp := [u 5 (.buildSlice 44 0 #[]), u 6 (.move (t 0)), u 7 (cb .append #[(t 5), (t 6)] #[44, 44]), u 2 (.assign (t 7))]
def slices_Clone_int (F : Nat) (a0 : List Int) : Option (List Int) :=
  if ([] : List Int).length + a0.length ≤ 17592186044416 then
    some (([] : List Int) ++ a0)
  else none
theorem slices_Clone_int_ok (F : Nat) {h : AH} {Z : Zn} {a0 : List Int} {v147 : Value} (hP : Pre Z h []) (q146 : RS (α := Int) Z v147 a0) {r : (List Int)} (hm : slices_Clone_int F a0 = some r) :
    ∃ v h' Z' A', callI Go.Proofs.Try.prog 36 [v147] h = some (v, h') ∧ St h (idsL []) Z (0, 0) Z' h' A' ∧ ∃ v166 : Value, ∃ c167 : List Value, v166 = v ∧ A' = [.gs v166 c167 (csz Int)] ∧ RCs (α := Int) Z' c167 r := by
  refine fn_intro (A := []) (Q := fun v Z' A' => ∃ v166 : Value, ∃ c167 : List Value, v166 = v ∧ A' = [.gs v166 c167 (csz Int)] ∧ RCs (α := Int) Z' c167 r) Go.Proofs.Try.func36 rfl rfl (by kernel_rfl) hP ?_
  intro hs hS
  unfold slices_Clone_int at hm
  replace hS : St hs [] Z (0, 0) Z hs [] := hS
  refine sr r36_0 ?_
  refine xe 1 [(0, v147)] ?_
  refine sq ?_
  refine sr r36_1 ?_
  refine xq 1 [(3, v147), (0, v147)] ?_
  rcases nil_or q146 with ⟨hn170, hv171⟩ | hv171
  replace hm : some [] = some r := by rw [hn170] at hm; simpa using hm
  refine r_step rfl trivial (o_cmp rfl rfl (c_nilT ⟨_, Go.Proofs.Try.underlying44⟩ hv171)) ?_
  refine xf [(4, .bool true), (0, v147)] ?_
  refine cT 4 rfl ?_
  refine sr r36_2 ?_
  refine xe 1 [(2, .slice none 0 0)] ?_
  refine rt ?_
  refine ⟨rfl, ?_⟩
  have hS172 := hS.nilGs (csz Int)
  obtain rfl := Option.some.inj hm
  refine ⟨_, _, _, ResL.tmp rfl (ResL.nil), hS172, ?_⟩
  exact ⟨(.slice none 0 0), [], rfl, rfl, (RCs.nil0 _)⟩
  refine r_step rfl trivial (o_cmp rfl rfl (c_nilF ⟨_, Go.Proofs.Try.underlying44⟩ hv171)) ?_
  refine xf [(4, .bool false), (0, v147)] ?_
  refine kF 4 rfl ?_
  refine sr r36_3 ?_
  have q177 : RCs (α := Int) Z [] [] := RCs.nil0 _
  refine r_row rfl trivial (o_bs (cells := []) (s := 1) (by kernel_rfl)) (by kernel_rfl) hS ?_
  intro v174 h175 hS176
  replace hS176 : St _ _ _ _ _ _ [.gs v174 [] (csz Int)] := hS176
  refine xq 1 [(6, v147), (5, v174)] ?_
  obtain ⟨c180, nw179⟩ := RS.news q146 (hS176).inv
  obtain ⟨hc186, hm⟩ := chk hm
  refine r_ex3 rfl trivial (o_app (ys := a0) (by_ := 8) hS176 (i := 0) rfl q177 nw179 rfl rfl (by kernel_rfl) (by omega) (by omega)) ?_
  rintro v181 c182 h183 ⟨q185, hS184⟩
  replace hS184 : St _ _ _ _ _ _ [.gs v181 c182 (csz Int)] := hS184
  refine xe 1 [(2, v181)] ?_
  refine rt ?_
  refine ⟨rfl, ?_⟩
  obtain rfl := Option.some.inj hm
  refine ⟨_, _, _, ResL.tmp rfl (ResL.nil), hS184, ?_⟩
  exact ⟨v181, c182, rfl, rfl, q185⟩

def r25_0 : List COp := [u 1 (.box 27 (t 0)), u 2 (.assign (.const (.pointer none)))]
def r25_1 : List COp := [u 6 (.fieldAddr 27 (t 1) 0), u 7 (.load 25 (t 6)), u 8 (cf 35 #[(t 7)] #[25]), u 9 (.build 27 #[(0, (t 8))]), u 10 (.build 58 #[(0, (t 9))]), u 11 (.box 58 (t 10)), u 3 (.assign (t 11))]
def r25_2 : List COp := [u 12 (.move (t 3)), u 13 (.nilCheck (t 12)), u 14 (.fieldAddr 58 (t 13) 0), u 15 (.fieldAddr 27 (t 14) 0), u 16 (.load 25 (t 15)), u 17 (cb .len #[(t 16)] #[25]), u 18 (.move (ci 0))]
def r25_3 : List COp := [u 19 (.binOp .lss 3 (t 18) (t 17) 3)]
def r25_4 : List COp := [u 20 (.move (t 18)), u 21 (.indexAddr 25 (t 16) (t 18)), u 22 (.load 46 (t 21)), u 5 (.alloc 46), u 4 (.assign (t 20)), o (.store 46 (t 5) (t 22))]
def r25_5 : List COpF := [uF 23 (.move (t 3)) .pure [], uF 24 (.nilCheck (t 23)) .pure [], uF 25 (.fieldAddr 58 (t 24) 0) .pure [], uF 26 (.fieldAddr 27 (t 25) 0) .pure [], uF 27 (.load 25 (t 26)) .look [], uF 28 (.move (t 4)) .pure [], uF 29 (.fieldAddr 46 (t 5) 4) .pure [], uF 30 (.load 44 (t 29)) .look [], uF 31 (cf 36 #[(t 30)] #[44]) .make [7], uF 32 (.indexAddr 25 (t 27) (t 28)) .pure [], uF 33 (.fieldAddr 46 (t 32) 4) .pure [], oF (.store 44 (t 33) (t 31)) .make [4, 7]]
def r25_6 : List COp := [u 34 (.binOp .add 3 (t 18) (ci 1) 3), u 18 (.move (t 34))]
def r25_7 : List COp := [u 35 (.move (t 3)), u 2 (.assign (t 35))]
def arena_own_l0 (F : Nat) (a0 : arena_Tree) : Nat → (List api_Node) → Int → Int → Option (List api_Node)
  | 0, _, _, _ => none
  | n + 1, x462, x466, x467 =>
    if x467 < x466 then
      if 0 ≤ x467 ∧ x467 < (x462.length : Int) then
        (x462[x467.toNat]?).bind fun x474 =>
        (slices_Clone_int F x474.Kids).bind fun r493 =>
        if 0 ≤ x467 ∧ x467 < (x462.length : Int) then
          (x462[x467.toNat]?).bind fun x515 =>
          arena_own_l0 F a0 n (x462.set x467.toNat (⟨x515.Kind, x515.From, x515.To, x515.Up, r493, x515.Key⟩ : api_Node)) x466 (w64 (x467 + 1))
        else none
      else none
    else
      some x462
def arena_own (F : Nat) (a0 : arena_Tree) : Option arena_forest :=
  (slices_Clone_api_Node F a0.Nodes).bind fun r306 =>
  ((arena_own_l0 F a0 F r306 (r306.length : Int) 0) : Option (List api_Node)).bind fun o => match o with
    | x536 => some (⟨(⟨x536⟩ : arena_Tree)⟩ : arena_forest)
theorem arena_own_ok (F : Nat) {h : AH} {Z : Zn} {a0 : arena_Tree} {v53 : Value} (hP : Pre Z h []) (q52 : RS (α := api_Node) Z v53 a0.Nodes) {r : arena_forest} (hm : arena_own F a0 = some r) :
    ∃ v h' Z' A', callI Go.Proofs.Try.prog 25 [.agg #[v53]] h = some (v, h') ∧ St h (idsL []) Z (0, 0) Z' h' A' ∧ ∃ b299 : Nat, ∃ v301 : Value, ∃ c302 : List Value, Pt b299 0 = v ∧ A' = [.blk b299 [v301], .gs v301 c302 (csz api_Node)] ∧ RCs (α := api_Node) Z' c302 r.Tree.Nodes := by
  refine fn_intro (A := []) (Q := fun v Z' A' => ∃ b299 : Nat, ∃ v301 : Value, ∃ c302 : List Value, Pt b299 0 = v ∧ A' = [.blk b299 [v301], .gs v301 c302 (csz api_Node)] ∧ RCs (α := api_Node) Z' c302 r.Tree.Nodes) Go.Proofs.Try.func25 rfl rfl (by kernel_rfl) hP ?_
  intro hs hS
  unfold arena_own at hm
  replace hS : St hs [] Z (0, 0) Z hs [] := hS
  refine sr r25_0 ?_
  refine r_blk rfl trivial (o_box (cs := [v53]) rfl rfl) hS ?_
  intro b303 h304 hS305
  refine xe 1 [(1, Pt b303 0)] ?_
  refine sr r25_1 ?_
  refine xq 1 [(6, Pt b303 0)] ?_
  refine r_step rfl trivial (o_ldb (v := v53) hS305 (i := 0) rfl rfl (by kernel_rfl)) ?_
  obtain ⟨r306, hx307, hm⟩ := obind hm
  have hSr313 : St _ _ _ _ _ _ ([] ++ [.blk b303 [v53]]) := hS305
  obtain ⟨v308, h309, Z314, A316, hcl310, hSc311, v318, c319, rfl, rfl, q317⟩ := slices_Clone_api_Node_ok F hSr313.preL q52 hx307
  have hS312 := hSr313.call hSc311
  have hZ315 := hSc311.zle
  replace hS312 : St _ _ _ _ _ _ [.gs v318 c319 (csz api_Node), .blk b303 [v53]] := hS312
  refine r_step rfl trivial (o_call hcl310 rfl rfl rfl) ?_
  refine r_step rfl trivial (o_build (v := .agg #[v318]) rfl (CA.cons (cs := [v318]) (hS312.gcell1 (i := 0) rfl) (CA.nil0)) (by kernel_rfl)) ?_
  refine xq 1 [(10, .agg #[v318])] ?_
  refine r_blk rfl trivial (o_box (cs := [v318]) rfl rfl) hS312 ?_
  intro b320 h321 hS322
  refine xe 1 [(3, Pt b320 0)] ?_
  refine sq ?_
  refine sr r25_2 ?_
  refine xq 4 [(15, Pt b320 0), (3, Pt b320 0)] ?_
  refine r_step rfl trivial (o_ldb (v := v318) hS322 (i := 0) rfl rfl (by kernel_rfl)) ?_
  refine r_step rfl trivial (o_len rfl (hS322.glen (i := 1) rfl q317) ⟨_, Go.Proofs.Try.underlying25⟩) ?_
  refine xe 1 [(18, V 0), (17, V (r306.length : Int)), (16, v318), (3, Pt b320 0)] ?_
  obtain ⟨o459, ho458, hm⟩ := obind hm
  refine W_join [3] (fun l h => ∃ Z534 : Zn, ∃ x536 : List api_Node, ∃ b535 : Nat, ∃ v538 : Value, ∃ c539 : List Value, x536 = o459 ∧ RCs (α := api_Node) Z534 c539 x536 ∧ l = [(3, Pt b535 0)] ∧ St hs [] Z (0, 0) Z534 h [.blk b535 [v538], .gs v538 c539 (csz api_Node)]) ?_ ?_
  rintro l h540 ⟨Z534, x536, b535, v538, c539, rfl, q537, rfl, hS541⟩
  try dsimp only at hm
  refine sr r25_7 ?_
  refine xe 2 [(2, Pt b535 0)] ?_
  refine rt ?_
  refine ⟨rfl, ?_⟩
  obtain rfl := Option.some.inj hm
  refine ⟨_, _, _, ResL.tmp rfl (ResL.nil), hS541, ?_⟩
  exact ⟨b535, v538, c539, rfl, rfl, q537⟩
  refine bk 0 ?_
  refine lp [3, 16, 17, 18] (fun n l h => ∃ Z460 : Zn, ∃ x462 : List api_Node, ∃ x466 : Int, ∃ x467 : Int, ∃ b461 : Nat, ∃ v464 : Value, ∃ c465 : List Value, arena_own_l0 F a0 n x462 x466 x467 = some o459 ∧ RCs (α := api_Node) Z460 c465 x462 ∧ l = [(3, Pt b461 0), (16, v464), (17, V x466), (18, V x467)] ∧ St hs [] Z (0, 0) Z460 h [.blk b461 [v464], .gs v464 c465 (csz api_Node)]) F ⟨_, r306, (r306.length : Int), 0, b320, v318, c319, ho458, q317, rfl, (hS322.takeN 2)⟩ ?_
  rintro n470 l h468 ⟨Z460, x462, x466, x467, b461, v464, c465, ho458, q463, rfl, hS469⟩
  rcases n470 with _ | n470
  cases (show none = some o459 from ho458)
  rw [arena_own_l0] at ho458
  refine sr r25_3 ?_
  rcases ifs ho458 with ⟨hp472, ho458⟩ | ⟨hp472, ho458⟩
  refine r_step rfl trivial (o_cmp rfl rfl (c_lss_T hp472)) ?_
  refine xf [(19, .bool true), (3, Pt b461 0), (16, v464), (17, V x466), (18, V x467)] ?_
  refine sq ?_
  refine kT 19 rfl ?_
  refine sq ?_
  refine bk 1 ?_
  refine sr r25_4 ?_
  refine xq 1 [(20, V x467), (3, Pt b461 0), (16, v464), (17, V x466), (18, V x467)] ?_
  obtain ⟨hc473, ho458⟩ := chk ho458
  refine r_step rfl trivial (o_index rfl rfl (by kernel_rfl : slTy _ _ = some (csz api_Node)) (hS469.gbased (j := 1) rfl q463 (by omega)) hc473.1 hc473.2) ?_
  obtain ⟨x474, hx475, ho458⟩ := obind ho458
  obtain ⟨cs476, hc477, he478, ht479⟩ := hS469.gel (j := 1) rfl q463 (i := x467) hx475
  obtain ⟨v480, q481, rfl⟩ := rc_api_Node hc477
  refine r_step rfl trivial (o_lde (w := .agg #[V x474.Kind, V x474.From, V x474.To, V x474.Up, v480, .bool x474.Key]) he478 rfl (by kernel_rfl)) ?_
  refine r_blk rfl trivial (o_alloc (cs := [V 0, V 0, V 0, V 0, .slice none 0 0, .bool false]) (by kernel_rfl)) hS469 ?_
  intro b482 h483 hS484
  refine xq 1 [(4, V x467), (5, Pt b482 0), (22, .agg #[V x474.Kind, V x474.From, V x474.To, V x474.Up, v480, .bool x474.Key]), (3, Pt b461 0), (16, v464), (17, V x466), (18, V x467)] ?_
  refine r_ex1 rfl trivial (o_stb (vs := [V x474.Kind, V x474.From, V x474.To, V x474.Up, v480, .bool x474.Key]) (cells' := (K46 v480 x474)) (L' := [.blk b482 (K46 v480 x474), .blk b461 [v464], .gs v464 c465 (csz api_Node)]) hS484 (i := 0) rfl rfl rfl rfl (by kernel_rfl) (one_cons rfl (one_cons rfl (one_cons rfl (one_cons rfl (one_cons (RS.one1 q481) (one_cons rfl one_nil)))))) rfl rfl rfl) ?_
  intro h485 hS486
  refine xf [(4, V x467), (5, Pt b482 0), (3, Pt b461 0), (16, v464), (17, V x466), (18, V x467)] ?_
  refine rgF r25_5 hS486 ?_
  intro bs487 h488 hlv490 hS489
  refine yq 4 [(26, Pt b461 0), (4, V x467), (5, Pt b482 0), (3, Pt b461 0), (16, v464), (17, V x466), (18, V x467)] ?_
  have lt491 : b461 < bs487 := hlv490.1 _ (List.mem_of_getElem? (i := 1) rfl) _ (by simp [Itm.ids])
  refine e_lookB rfl trivial rfl (by show b461 < _; omega) (same1 (v := v464) (hS489.gsim1 (i := 2) rfl)) (o_ldb (v := v464) hS489 (i := 1) rfl rfl (by kernel_rfl)) trivial ?_
  refine yq 2 [(29, Pt b482 4), (28, V x467), (27, v464), (3, Pt b461 0), (16, v464), (17, V x466), (18, V x467)] ?_
  have lt492 : b482 < bs487 := hlv490.1 _ (List.mem_of_getElem? (i := 0) rfl) _ (by simp [Itm.ids])
  refine e_lookB rfl trivial rfl (by show b482 < _; omega) (same1 (v := v480) (RS.sim1 q481)) (o_ldb (v := v480) hS489 (i := 0) rfl rfl (by kernel_rfl)) trivial ?_
  obtain ⟨r493, hx494, ho458⟩ := obind ho458
  have hSl500 := hS489.lown
  have hSr501 : St _ _ _ _ _ _ ([] ++ [.blk b482 (K46 v480 x474), .blk b461 [v464], .gs v464 c465 (csz api_Node)]) := hSl500
  obtain ⟨v495, h496, Z502, A504, hcl497, hSc498, v506, c507, rfl, rfl, q505⟩ := slices_Clone_int_ok F hSr501.preL q481 hx494
  have hS499 := hSr501.call hSc498
  have hZ503 := hSc498.zle
  replace hS499 : St _ _ _ _ _ _ [.gs v506 c507 (csz Int), .blk b482 (K46 v480 x474), .blk b461 [v464], .gs v464 c465 (csz api_Node)] := hS499
  refine e_still rfl trivial hS489 (o_call hcl497 rfl rfl rfl) hS499 (St.lowk hSc498) ?_
  intro h508 hS509
  obtain ⟨hc510, ho458⟩ := chk ho458
  refine e_val rfl trivial (o_index rfl rfl (by kernel_rfl : slTy _ _ = some (csz api_Node)) (hS509.gbased (j := 3) rfl (q463.mono hZ503) (by omega)) hc510.1 hc510.2) ?_
  refine yq 1 [(33, .pointer (some (elemA v464 x467 (csz api_Node) 4))), (31, v506), (3, Pt b461 0), (16, v464), (17, V x466), (18, V x467)] ?_
  obtain ⟨x515, hx516, ho458⟩ := obind ho458
  obtain ⟨Z511, hZ512, q513, hS514⟩ := (hS509.front 0 rfl).freeze q505
  replace hS514 : St _ _ _ _ _ _ [.blk b482 (K46 v480 x474), .blk b461 [v464], .gs v464 c465 (csz api_Node)] := hS514
  obtain ⟨cs517, hc518, he519, ht520⟩ := hS514.gel (j := 2) rfl (q463.mono (hZ503.trans hZ512)) (i := x467) hx516
  obtain ⟨v521, q522, rfl⟩ := rc_api_Node hc518
  have hF527 : St _ _ _ _ _ _ ([.gs v464 c465 (csz api_Node)] ++ [.blk b482 (K46 v480 x474), .blk b461 [v464]]) := (hS514.front 2 rfl)
  refine e_mk2 rfl trivial hF527 (o_ste (u' := (⟨x515.Kind, x515.From, x515.To, x515.Up, r493, x515.Key⟩ : api_Node)) (vs := [v506]) (cs' := [V x515.Kind, V x515.From, V x515.To, V x515.Up, v506, .bool x515.Key]) hF527.sub (m := 0) rfl (q463.mono (hZ503.trans hZ512)) hx516 ht520 rfl rfl (RS.cell1 q513) (by kernel_rfl) (one_cons (RS.one1 q513) one_nil) rfl rfl ⟨_, q513, rfl⟩) (hZ503.trans hZ512) (.keep (hF527.neB 0 rfl blk_mem) (.keep (hF527.neB 1 rfl blk_mem) .nil)) ?_
  rintro h523 c524 ⟨q526, hS525⟩
  replace hS525 : St _ _ _ _ _ _ [.gs v464 c524 (csz api_Node), .blk b482 (K46 v480 x474), .blk b461 [v464]] := hS525
  refine yf [(3, Pt b461 0), (16, v464), (17, V x466), (18, V x467)] ?_
  have hS528 := hS525.unres
  refine rg r25_6 ?_
  refine xe 2 [(18, V (w64 (x467 + 1))), (3, Pt b461 0), (16, v464), (17, V x466)] ?_
  exact ⟨n470, Nat.lt_succ_self _, ⟨_, x462.set x467.toNat (⟨x515.Kind, x515.From, x515.To, x515.Up, r493, x515.Key⟩ : api_Node), x466, w64 (x467 + 1), b461, v464, c524, ho458, q526, rfl, (((hS528.front 0 rfl).front 2 rfl).takeN 2)⟩⟩
  refine r_step rfl trivial (o_cmp rfl rfl (c_lss_F hp472)) ?_
  refine xf [(19, .bool false), (3, Pt b461 0), (16, v464), (17, V x466), (18, V x467)] ?_
  refine sq ?_
  refine cF 19 rfl ?_
  refine xt 0 ?_
  refine blkX_hit ?_
  obtain rfl := Option.some.inj ho458
  exact ⟨_, x462, b461, v464, c465, rfl, q463, rfl, hS469⟩

def r26_0 : List COp := [u 4 (.assign (.const (.bool false)))]
def r26_1 : List COp := [u 5 (.move (t 1)), u 6 (.binOp .geq 3 (t 5) (ci 0) 3), u 7 (.move (t 6)), gT 7 (some 8) (.move (t 1)), gT 7 (some 9) (.move (t 0)), gT 7 (some 10) (.nilCheck (t 9)), gT 7 (some 11) (.fieldAddr 58 (t 10) 0), gT 7 (some 12) (.fieldAddr 27 (t 11) 0), gT 7 (some 13) (.load 25 (t 12)), gT 7 (some 14) (cb .len #[(t 13)] #[25]), gT 7 (some 15) (.binOp .lss 3 (t 8) (t 14) 3), u 16 (.pick (t 7) (t 15) (.const (.bool false))), u 4 (.assign (t 16))]
def arena_forest_has (F : Nat) (a0 : arena_forest) (a1 : Int) : Option Bool :=
  if (0 : Int) ≤ a1 then
    if a1 < (a0.Tree.Nodes.length : Int) then
      some true
    else
      some false
  else
    some false
theorem arena_forest_has_ok (F : Nat) {h : AH} {Z : Zn} {a0 : arena_forest} {a1 : Int} {b562 : Nat} {v564 : Value} {c565 : List Value} (hP : Pre Z h [.blk b562 [v564], .gs v564 c565 (csz api_Node)]) (q563 : RCs (α := api_Node) Z c565 a0.Tree.Nodes) {r : Bool} (hm : arena_forest_has F a0 a1 = some r) :
    ∃ v h' Z' A', callI Go.Proofs.Try.prog 26 [Pt b562 0, V a1] h = some (v, h') ∧ St h (idsL [.blk b562 [v564], .gs v564 c565 (csz api_Node)]) Z (0, 0) Z' h' A' ∧ .bool r = v ∧ A' = [.blk b562 [v564], .gs v564 c565 (csz api_Node)] := by
  refine fn_intro (A := [.blk b562 [v564], .gs v564 c565 (csz api_Node)]) (Q := fun v Z' A' => .bool r = v ∧ A' = [.blk b562 [v564], .gs v564 c565 (csz api_Node)]) Go.Proofs.Try.func26 rfl rfl (by kernel_rfl) hP ?_
  intro hs hS
  unfold arena_forest_has at hm
  refine sr r26_0 ?_
  refine xe 1 [(0, Pt b562 0), (1, V a1)] ?_
  refine sr r26_1 ?_
  refine xq 1 [(5, V a1), (0, Pt b562 0), (1, V a1)] ?_
  rcases ifs hm with ⟨hp568, hm⟩ | ⟨hp568, hm⟩
  refine r_step rfl trivial (o_cmp rfl rfl (c_geq_T hp568)) ?_
  refine xq 6 [(12, Pt b562 0), (8, V a1), (7, .bool true)] ?_
  refine r_step rfl rfl (o_ldb (v := v564) hS (i := 0) rfl rfl (by kernel_rfl)) ?_
  refine r_step rfl rfl (o_len rfl (hS.glen (i := 1) rfl q563) ⟨_, Go.Proofs.Try.underlying25⟩) ?_
  rcases ifs hm with ⟨hp569, hm⟩ | ⟨hp569, hm⟩
  refine r_step rfl rfl (o_cmp rfl rfl (c_lss_T hp569)) ?_
  refine xe 2 [(4, .bool true)] ?_
  refine rt ?_
  refine ⟨rfl, ?_⟩
  obtain rfl := Option.some.inj hm
  refine ⟨_, _, _, ResL.tmp rfl (ResL.nil), hS, ?_⟩
  exact ⟨rfl, rfl⟩
  refine r_step rfl rfl (o_cmp rfl rfl (c_lss_F hp569)) ?_
  refine xe 2 [(4, .bool false)] ?_
  refine rt ?_
  refine ⟨rfl, ?_⟩
  obtain rfl := Option.some.inj hm
  refine ⟨_, _, _, ResL.tmp rfl (ResL.nil), hS, ?_⟩
  exact ⟨rfl, rfl⟩
  refine r_step rfl trivial (o_cmp rfl rfl (c_geq_F hp568)) ?_
  refine xe 11 [(4, .bool false)] ?_
  refine rt ?_
  refine ⟨rfl, ?_⟩
  obtain rfl := Option.some.inj hm
  refine ⟨_, _, _, ResL.tmp rfl (ResL.nil), hS, ?_⟩
  exact ⟨rfl, rfl⟩

def r28_0 : List COp := [u 7 (.move (t 0)), u 8 (.nilCheck (t 7)), u 9 (.fieldAddr 58 (t 8) 0), u 10 (.fieldAddr 27 (t 9) 0), u 11 (.load 25 (t 10)), u 12 (cb .len #[(t 11)] #[25]), u 6 (.assign (t 12))]
def r28_1 : List COp := [u 13 (.move (t 0)), u 14 (.move (t 1)), u 15 (cf 26 #[(t 13), (t 14)] #[54, 3]), u 16 (.move (t 15)), gT 16 (some 17) (.move (t 6)), gT 16 (some 18) (.binOp .gtr 3 (t 17) (ci 0) 3), u 19 (.pick (t 16) (t 18) (.const (.bool false)))]
def r28_2 : List COp := [u 20 (.move (t 6)), u 21 (.binOp .sub 3 (t 20) (ci 1) 3), u 6 (.assign (t 21))]
def r28_3 : List COpF := [uF 22 (.move (t 0)) .pure [], uF 23 (.nilCheck (t 22)) .pure [], uF 24 (.fieldAddr 58 (t 23) 0) .pure [], uF 25 (.fieldAddr 27 (t 24) 0) .pure [], uF 26 (.load 25 (t 25)) .look [], uF 27 (.move (t 1)) .pure [], uF 28 (.move (t 0)) .pure [], uF 29 (.nilCheck (t 28)) .pure [], uF 30 (.fieldAddr 58 (t 29) 0) .pure [], uF 31 (.fieldAddr 27 (t 30) 0) .pure [], uF 32 (.load 25 (t 31)) .look [], uF 33 (.move (t 1)) .pure [], uF 34 (.indexAddr 25 (t 32) (t 33)) .pure [], uF 35 (.fieldAddr 46 (t 34) 2) .pure [], uF 36 (.load 3 (t 35)) .look [], uF 37 (.move (t 2)) .pure [], uF 38 (cb .max #[(t 36), (t 37)] #[3, 3]) .pure [], uF 39 (.indexAddr 25 (t 26) (t 27)) .pure [], uF 40 (.fieldAddr 46 (t 39) 2) .pure [], oF (.store 3 (t 40) (t 38)) .make [4, 10, 14]]
def r28_4 : List COp := [u 41 (.move (t 0)), u 42 (.nilCheck (t 41)), u 43 (.fieldAddr 58 (t 42) 0), u 44 (.fieldAddr 27 (t 43) 0), u 45 (.load 25 (t 44)), u 46 (.move (t 1)), u 47 (.indexAddr 25 (t 45) (t 46)), u 48 (.fieldAddr 46 (t 47) 3), u 49 (.load 3 (t 48)), u 1 (.assign (t 49))]
def arena_forest_grow_l0 (F : Nat) (a0 : arena_forest) (a1 : Int) (a2 : Int) : Nat → (List api_Node) → Int → Int → Option (List api_Node)
  | 0, _, _, _ => none
  | n + 1, x953, x956, x957 =>
    (arena_forest_has F (⟨(⟨x953⟩ : arena_Tree)⟩ : arena_forest) x956).bind fun r987 =>
    if r987 = true then
      if (0 : Int) < x957 then
        if 0 ≤ x956 ∧ x956 < (x953.length : Int) then
          (x953[x956.toNat]?).bind fun x1007 =>
          if 0 ≤ x956 ∧ x956 < (x953.length : Int) then
            (x953[x956.toNat]?).bind fun x1019 =>
            if 0 ≤ x956 ∧ x956 < ((x953.set x956.toNat (⟨x1019.Kind, x1019.From, imax x1007.To a2, x1019.Up, x1019.Kids, x1019.Key⟩ : api_Node)).length : Int) then
              ((x953.set x956.toNat (⟨x1019.Kind, x1019.From, imax x1007.To a2, x1019.Up, x1019.Kids, x1019.Key⟩ : api_Node))[x956.toNat]?).bind fun x1034 =>
              arena_forest_grow_l0 F a0 a1 a2 n (x953.set x956.toNat (⟨x1019.Kind, x1019.From, imax x1007.To a2, x1019.Up, x1019.Kids, x1019.Key⟩ : api_Node)) x1034.Up (w64 (x957 - 1))
            else none
          else none
        else none
      else
        some x953
    else
      some x953
def arena_forest_grow (F : Nat) (a0 : arena_forest) (a1 : Int) (a2 : Int) : Option arena_forest :=
  ((arena_forest_grow_l0 F a0 a1 a2 F a0.Tree.Nodes a1 (a0.Tree.Nodes.length : Int)) : Option (List api_Node)).bind fun o => match o with
    | x1046 => some (⟨(⟨x1046⟩ : arena_Tree)⟩ : arena_forest)
theorem arena_forest_grow_ok (F : Nat) {h : AH} {Z : Zn} {a0 : arena_forest} {a1 : Int} {a2 : Int} {b592 : Nat} {v594 : Value} {c595 : List Value} (hP : Pre Z h [.blk b592 [v594], .gs v594 c595 (csz api_Node)]) (q593 : RCs (α := api_Node) Z c595 a0.Tree.Nodes) {r : arena_forest} (hm : arena_forest_grow F a0 a1 a2 = some r) :
    ∃ v h' Z' A', callI Go.Proofs.Try.prog 28 [Pt b592 0, V a1, V a2] h = some (v, h') ∧ St h (idsL [.blk b592 [v594], .gs v594 c595 (csz api_Node)]) Z (0, 0) Z' h' A' ∧ ∃ c776 : List Value, .tuple #[] = v ∧ A' = [.blk b592 [v594], .gs v594 c776 (csz api_Node)] ∧ RCs (α := api_Node) Z' c776 r.Tree.Nodes := by
  refine fn_intro (A := [.blk b592 [v594], .gs v594 c595 (csz api_Node)]) (Q := fun v Z' A' => ∃ c776 : List Value, .tuple #[] = v ∧ A' = [.blk b592 [v594], .gs v594 c776 (csz api_Node)] ∧ RCs (α := api_Node) Z' c776 r.Tree.Nodes) Go.Proofs.Try.func28 rfl rfl (by kernel_rfl) hP ?_
  intro hs hS
  unfold arena_forest_grow at hm
  refine sr r28_0 ?_
  refine xq 4 [(10, Pt b592 0), (0, Pt b592 0), (1, V a1), (2, V a2)] ?_
  refine r_step rfl trivial (o_ldb (v := v594) hS (i := 0) rfl rfl (by kernel_rfl)) ?_
  refine r_step rfl trivial (o_len rfl (hS.glen (i := 1) rfl q593) ⟨_, Go.Proofs.Try.underlying25⟩) ?_
  refine xe 1 [(6, V (a0.Tree.Nodes.length : Int)), (0, Pt b592 0), (1, V a1), (2, V a2)] ?_
  obtain ⟨o951, ho950, hm⟩ := obind hm
  refine W_join [] (fun l h => ∃ Z1045 : Zn, ∃ x1046 : List api_Node, ∃ c1048 : List Value, x1046 = o951 ∧ RCs (α := api_Node) Z1045 c1048 x1046 ∧ l = [] ∧ St hs (idsL [.blk b592 [v594], .gs v594 c595 (csz api_Node)]) Z (0, 0) Z1045 h [.blk b592 [v594], .gs v594 c1048 (csz api_Node)]) ?_ ?_
  rintro l h1049 ⟨Z1045, x1046, c1048, rfl, q1047, rfl, hS1050⟩
  try dsimp only at hm
  obtain rfl := Option.some.inj hm
  refine ⟨_, _, _, ResL.nil, hS1050, ?_⟩
  exact ⟨c1048, rfl, rfl, q1047⟩
  refine bk 0 ?_
  refine lp [0, 1, 2, 6] (fun n l h => ∃ Z952 : Zn, ∃ x953 : List api_Node, ∃ x956 : Int, ∃ x957 : Int, ∃ c955 : List Value, arena_forest_grow_l0 F a0 a1 a2 n x953 x956 x957 = some o951 ∧ RCs (α := api_Node) Z952 c955 x953 ∧ l = [(0, Pt b592 0), (1, V x956), (2, V a2), (6, V x957)] ∧ St hs (idsL [.blk b592 [v594], .gs v594 c595 (csz api_Node)]) Z (0, 0) Z952 h [.blk b592 [v594], .gs v594 c955 (csz api_Node)]) F ⟨_, a0.Tree.Nodes, a1, (a0.Tree.Nodes.length : Int), c595, ho950, q593, rfl, hS⟩ ?_
  rintro n960 l h958 ⟨Z952, x953, x956, x957, c955, ho950, q954, rfl, hS959⟩
  rcases n960 with _ | n960
  cases (show none = some o951 from ho950)
  rw [arena_forest_grow_l0] at ho950
  refine sq ?_
  refine sr r28_1 ?_
  refine xq 2 [(14, V x956), (13, Pt b592 0), (0, Pt b592 0), (1, V x956), (2, V a2), (6, V x957)] ?_
  obtain ⟨r987, hx988, ho950⟩ := obind ho950
  have hF994 : St _ _ _ _ _ _ ([.blk b592 [v594], .gs v594 c955 (csz api_Node)] ++ []) := ((hS959.front 1 rfl).front 1 rfl)
  obtain ⟨v989, h990, Z995, A997, hcl991, hSc992, rfl, rfl⟩ := arena_forest_has_ok F hF994.preL q954 hx988
  have hZ996 := hSc992.zle
  have hS993 := hF994.call hSc992
  replace hS993 : St _ _ _ _ _ _ [.blk b592 [v594], .gs v594 c955 (csz api_Node)] := hS993
  refine r_step rfl trivial (o_call hcl991 rfl rfl rfl) ?_
  refine xq 1 [(16, .bool r987), (0, Pt b592 0), (1, V x956), (2, V a2), (6, V x957)] ?_
  rcases ifs ho950 with ⟨hp998, ho950⟩ | ⟨hp998, ho950⟩
  refine r_setb (t := 16) rfl hp998 ?_
  refine xq 1 [(17, V x957), (16, .bool true), (0, Pt b592 0), (1, V x956), (2, V a2), (6, V x957)] ?_
  rcases ifs ho950 with ⟨hp999, ho950⟩ | ⟨hp999, ho950⟩
  refine r_step rfl rfl (o_cmp rfl rfl (c_gtr_T hp999)) ?_
  refine xe 1 [(19, .bool true), (0, Pt b592 0), (1, V x956), (2, V a2), (6, V x957)] ?_
  refine kT 19 rfl ?_
  refine sq ?_
  refine bk 1 ?_
  refine srF r28_3 hS993 ?_
  intro bs1000 h1001 hlv1003 hS1002
  refine yq 4 [(25, Pt b592 0), (0, Pt b592 0), (1, V x956), (2, V a2), (6, V x957)] ?_
  have lt1004 : b592 < bs1000 := hlv1003.1 _ (List.mem_of_getElem? (i := 0) rfl) _ (by simp [Itm.ids])
  refine e_lookB rfl trivial rfl (by show b592 < _; omega) (same1 (v := v594) (hS1002.gsim1 (i := 1) rfl)) (o_ldb (v := v594) hS1002 (i := 0) rfl rfl (by kernel_rfl)) trivial ?_
  refine yq 5 [(31, Pt b592 0), (27, V x956), (26, v594), (0, Pt b592 0), (1, V x956), (2, V a2), (6, V x957)] ?_
  have lt1005 : b592 < bs1000 := hlv1003.1 _ (List.mem_of_getElem? (i := 0) rfl) _ (by simp [Itm.ids])
  refine e_lookB rfl trivial rfl (by show b592 < _; omega) (same1 (v := v594) (hS1002.gsim1 (i := 1) rfl)) (o_ldb (v := v594) hS1002 (i := 0) rfl rfl (by kernel_rfl)) trivial ?_
  refine yq 1 [(33, V x956), (32, v594), (27, V x956), (26, v594), (0, Pt b592 0), (1, V x956), (2, V a2), (6, V x957)] ?_
  obtain ⟨hc1006, ho950⟩ := chk ho950
  refine e_val rfl trivial (o_index rfl rfl (by kernel_rfl : slTy _ _ = some (csz api_Node)) (hS1002.gbased (j := 1) rfl (q954.mono hZ996) (by omega)) hc1006.1 hc1006.2) ?_
  refine yq 1 [(35, .pointer (some (elemA v594 x956 (csz api_Node) 2))), (27, V x956), (26, v594), (0, Pt b592 0), (1, V x956), (2, V a2), (6, V x957)] ?_
  obtain ⟨x1007, hx1008, ho950⟩ := obind ho950
  obtain ⟨cs1009, hc1010, he1011, ht1012⟩ := hS1002.gel (j := 1) rfl (q954.mono hZ996) (i := x956) hx1008
  obtain ⟨v1013, q1014, rfl⟩ := rc_api_Node hc1010
  have ps1015 := pos_of hx1008
  have hB1016 := hS1002.gbased (j := 1) rfl (q954.mono hZ996) ps1015
  have lt1017 : (baseOf v594).block < bs1000 := row_ltM (hlv1003.1 _ (List.mem_of_getElem? (i := 1) rfl)) hB1016
  refine e_lookB rfl trivial rfl (by show (baseOf v594).block < _; omega) (same1 (v := V x1007.To) trivial) (o_lde (w := V x1007.To) he1011 rfl (by kernel_rfl)) trivial ?_
  refine yq 2 [(38, V (imax x1007.To a2)), (27, V x956), (26, v594), (0, Pt b592 0), (1, V x956), (2, V a2), (6, V x957)] ?_
  obtain ⟨hc1018, ho950⟩ := chk ho950
  refine e_val rfl trivial (o_index rfl rfl (by kernel_rfl : slTy _ _ = some (csz api_Node)) (hS1002.gbased (j := 1) rfl (q954.mono hZ996) (by omega)) hc1018.1 hc1018.2) ?_
  refine yq 1 [(40, .pointer (some (elemA v594 x956 (csz api_Node) 2))), (38, V (imax x1007.To a2)), (0, Pt b592 0), (1, V x956), (2, V a2), (6, V x957)] ?_
  obtain ⟨x1019, hx1020, ho950⟩ := obind ho950
  obtain ⟨cs1021, hc1022, he1023, ht1024⟩ := hS1002.gel (j := 1) rfl (q954.mono hZ996) (i := x956) hx1020
  obtain ⟨v1025, q1026, rfl⟩ := rc_api_Node hc1022
  have hF1031 : St _ _ _ _ _ _ ([.gs v594 c955 (csz api_Node)] ++ [.blk b592 [v594]]) := (hS1002.front 1 rfl)
  refine e_mk2 rfl trivial hF1031 (o_ste (u' := (⟨x1019.Kind, x1019.From, imax x1007.To a2, x1019.Up, x1019.Kids, x1019.Key⟩ : api_Node)) (vs := [V (imax x1007.To a2)]) (cs' := [V x1019.Kind, V x1019.From, V (imax x1007.To a2), V x1019.Up, v1025, .bool x1019.Key]) hF1031.sub (m := 0) rfl (q954.mono hZ996) hx1020 ht1024 rfl rfl rfl (by kernel_rfl) rfl rfl rfl ⟨_, q1026, rfl⟩) (Zle.refl _) (.drop (by decide) (.keep (hF1031.neB 0 rfl blk_mem) (.keep (hF1031.neB 0 rfl blk_mem) .nil))) ?_
  rintro h1027 c1028 ⟨q1030, hS1029⟩
  replace hS1029 : St _ _ _ _ _ _ [.gs v594 c1028 (csz api_Node), .blk b592 [v594]] := hS1029
  refine yf [(0, Pt b592 0), (1, V x956), (2, V a2), (6, V x957)] ?_
  have hS1032 := hS1029.unres
  refine rg r28_4 ?_
  refine xq 4 [(44, Pt b592 0), (0, Pt b592 0), (1, V x956), (2, V a2), (6, V x957)] ?_
  refine r_step rfl trivial (o_ldb (v := v594) hS1032 (i := 1) rfl rfl (by kernel_rfl)) ?_
  refine xq 1 [(46, V x956), (45, v594), (0, Pt b592 0), (1, V x956), (2, V a2), (6, V x957)] ?_
  obtain ⟨hc1033, ho950⟩ := chk ho950
  refine r_step rfl trivial (o_index rfl rfl (by kernel_rfl : slTy _ _ = some (csz api_Node)) (hS1032.gbased (j := 0) rfl q1030 (by omega)) hc1033.1 hc1033.2) ?_
  refine xq 1 [(48, .pointer (some (elemA v594 x956 (csz api_Node) 3))), (0, Pt b592 0), (1, V x956), (2, V a2), (6, V x957)] ?_
  obtain ⟨x1034, hx1035, ho950⟩ := obind ho950
  obtain ⟨cs1036, hc1037, he1038, ht1039⟩ := hS1032.gel (j := 0) rfl q1030 (i := x956) hx1035
  obtain ⟨v1040, q1041, rfl⟩ := rc_api_Node hc1037
  refine r_step rfl trivial (o_lde (w := V x1034.Up) he1038 rfl (by kernel_rfl)) ?_
  refine xe 1 [(1, V x1034.Up), (0, Pt b592 0), (2, V a2), (6, V x957)] ?_
  refine rg r28_2 ?_
  refine xe 3 [(6, V (w64 (x957 - 1))), (1, V x1034.Up), (0, Pt b592 0), (2, V a2)] ?_
  exact ⟨n960, Nat.lt_succ_self _, ⟨_, x953.set x956.toNat (⟨x1019.Kind, x1019.From, imax x1007.To a2, x1019.Up, x1019.Kids, x1019.Key⟩ : api_Node), x1034.Up, w64 (x957 - 1), c1028, ho950, q1030, rfl, ((hS1032.front 0 rfl).front 1 rfl)⟩⟩
  refine r_step rfl rfl (o_cmp rfl rfl (c_gtr_F hp999)) ?_
  refine xe 1 [(19, .bool false), (0, Pt b592 0), (1, V x956), (2, V a2), (6, V x957)] ?_
  refine cF 19 rfl ?_
  refine xt 0 ?_
  refine blkX_hit ?_
  obtain rfl := Option.some.inj ho950
  exact ⟨_, x953, c955, rfl, (q954.mono hZ996), rfl, hS993⟩
  refine r_setb (t := 16) rfl (Bool.eq_false_iff.2 hp998) ?_
  refine xe 3 [(19, .bool false), (0, Pt b592 0), (1, V x956), (2, V a2), (6, V x957)] ?_
  refine cF 19 rfl ?_
  refine xt 0 ?_
  refine blkX_hit ?_
  obtain rfl := Option.some.inj ho950
  exact ⟨_, x953, c955, rfl, (q954.mono hZ996), rfl, hS993⟩

def r16_0 : List COp := [u 3 (.box 27 (t 0)), u 6 (.alloc 27)]
def r16_1 : List COp := [u 8 (.load 27 (t 3)), u 9 (cf 25 #[(t 8)] #[27]), u 7 (.assign (t 9))]
def r16_2 : List COp := [u 10 (.move (t 7)), u 11 (.move (t 1)), u 12 (cf 26 #[(t 10), (t 11)] #[54, 3]), u 13 (.move (t 12)), gT 13 (some 14) (.move (t 2)), gT 13 (some 15) (.move (t 7)), gT 13 (some 16) (.nilCheck (t 15)), gT 13 (some 17) (.fieldAddr 58 (t 16) 0), gT 13 (some 18) (.fieldAddr 27 (t 17) 0), gT 13 (some 19) (.load 25 (t 18)), gT 13 (some 20) (.indexAddr 25 (t 19) (ci 0)), gT 13 (some 21) (.fieldAddr 46 (t 20) 2), gT 13 (some 22) (.load 3 (t 21)), gT 13 (some 23) (.binOp .leq 3 (t 14) (t 22) 3), u 24 (.pick (t 13) (t 23) (.const (.bool false)))]
def r16_3 : List COp := [u 25 (.move (t 7)), u 26 (.move (t 1)), u 27 (.move (t 2)), u 28 (cf 28 #[(t 25), (t 26), (t 27)] #[54, 3, 3])]
def r16_4 : List COp := [u 29 (.move (t 7)), u 30 (.nilCheck (t 29)), u 31 (.fieldAddr 58 (t 30) 0), u 32 (.load 27 (t 31)), o (.store 27 (t 6) (t 32))]
def arena_Grow (F : Nat) (a0 : arena_Tree) (a1 : Int) (a2 : Int) : Option arena_Tree :=
  (arena_own F a0).bind fun r1087 =>
  (((arena_forest_has F r1087 a1).bind fun r1139 =>
    if r1139 = true then
      if 0 ≤ (0 : Int) ∧ (0 : Int) < (r1087.Tree.Nodes.length : Int) then
        (r1087.Tree.Nodes[(0 : Int).toNat]?).bind fun x1152 =>
        if a2 ≤ x1152.To then
          (arena_forest_grow F r1087 a1 a2).bind fun r1161 =>
          some r1161.Tree.Nodes
        else
          some r1087.Tree.Nodes
      else none
    else
      some r1087.Tree.Nodes) : Option (List api_Node)).bind fun o => match o with
    | x1177 => some (⟨x1177⟩ : arena_Tree)
theorem arena_Grow_ok (F : Nat) {h : AH} {Z : Zn} {a0 : arena_Tree} {a1 : Int} {a2 : Int} {v45 : Value} (hP : Pre Z h []) (q44 : RS (α := api_Node) Z v45 a0.Nodes) {r : arena_Tree} (hm : arena_Grow F a0 a1 a2 = some r) :
    ∃ v h' Z' A', callI Go.Proofs.Try.prog 16 [.agg #[v45], V a1, V a2] h = some (v, h') ∧ St h (idsL []) Z (0, 0) Z' h' A' ∧ ∃ v1079 : Value, ∃ c1080 : List Value, .agg #[v1079] = v ∧ A' = [.gs v1079 c1080 (csz api_Node)] ∧ RCs (α := api_Node) Z' c1080 r.Nodes := by
  refine fn_intro (A := []) (Q := fun v Z' A' => ∃ v1079 : Value, ∃ c1080 : List Value, .agg #[v1079] = v ∧ A' = [.gs v1079 c1080 (csz api_Node)] ∧ RCs (α := api_Node) Z' c1080 r.Nodes) Go.Proofs.Try.func16 rfl rfl (by kernel_rfl) hP ?_
  intro hs hS
  unfold arena_Grow at hm
  replace hS : St hs [] Z (0, 0) Z hs [] := hS
  refine sr r16_0 ?_
  refine r_blk rfl trivial (o_box (cs := [v45]) rfl rfl) hS ?_
  intro b1081 h1082 hS1083
  refine r_blk rfl trivial (o_alloc (cs := [.slice none 0 0]) (by kernel_rfl)) hS1083 ?_
  intro b1084 h1085 hS1086
  refine xf [(6, Pt b1084 0), (3, Pt b1081 0), (1, V a1), (2, V a2)] ?_
  refine sr r16_1 ?_
  refine r_step rfl trivial (o_ldb (v := .agg #[v45]) hS1086 (i := 1) rfl rfl (by kernel_rfl)) ?_
  obtain ⟨r1087, hx1088, hm⟩ := obind hm
  have hSr1094 : St _ _ _ _ _ _ ([] ++ [.blk b1084 [.slice none 0 0], .blk b1081 [v45]]) := hS1086
  obtain ⟨v1089, h1090, Z1095, A1097, hcl1091, hSc1092, b1098, v1100, c1101, rfl, rfl, q1099⟩ := arena_own_ok F hSr1094.preL q44 hx1088
  have hS1093 := hSr1094.call hSc1092
  have hZ1096 := hSc1092.zle
  replace hS1093 : St _ _ _ _ _ _ [.blk b1098 [v1100], .gs v1100 c1101 (csz api_Node), .blk b1084 [.slice none 0 0], .blk b1081 [v45]] := hS1093
  refine r_step rfl trivial (o_call hcl1091 rfl rfl rfl) ?_
  refine xe 1 [(7, Pt b1098 0), (6, Pt b1084 0), (1, V a1), (2, V a2)] ?_
  refine sq ?_
  obtain ⟨o1138, ho1137, hm⟩ := obind hm
  refine W_seqJoin0 [6, 7] (fun l h => ∃ Z1174 : Zn, ∃ x1177 : List api_Node, ∃ b1175 : Nat, ∃ b1176 : Nat, ∃ v1179 : Value, ∃ c1180 : List Value, x1177 = o1138 ∧ RCs (α := api_Node) Z1174 c1180 x1177 ∧ l = [(6, Pt b1175 0), (7, Pt b1176 0)] ∧ St hs [] Z (0, 0) Z1174 h [.blk b1175 [.slice none 0 0], .blk b1176 [v1179], .gs v1179 c1180 (csz api_Node)]) (by kernel_rfl) ?_ ?_
  rintro l h1181 ⟨Z1174, x1177, b1175, b1176, v1179, c1180, rfl, q1178, rfl, hS1182⟩
  try dsimp only at hm
  refine sr r16_4 ?_
  refine xq 3 [(31, Pt b1176 0), (6, Pt b1175 0)] ?_
  refine r_step rfl trivial (o_ldb (v := .agg #[v1179]) hS1182 (i := 1) rfl rfl (by kernel_rfl)) ?_
  refine r_ex1 rfl trivial (o_stb (vs := [v1179]) (cells' := [v1179]) (L' := [.blk b1175 [v1179], .blk b1176 [v1179], .gs v1179 c1180 (csz api_Node)]) hS1182 (i := 0) rfl rfl rfl rfl (by kernel_rfl) (one_cons (hS1182.gone1 (i := 2) rfl) one_nil) rfl rfl rfl) ?_
  intro h1183 hS1184
  refine xf [(6, Pt b1175 0)] ?_
  refine rt ?_
  refine ⟨rfl, ?_⟩
  obtain rfl := Option.some.inj hm
  refine ⟨_, _, _, ResL.cell (v := .agg #[v1179]) rfl hS1184 (i := 0) rfl (by kernel_rfl) (ResL.nil), ((hS1184.front 2 rfl).takeN 1), ?_⟩
  exact ⟨v1179, c1180, rfl, rfl, q1178⟩
  refine rg r16_2 ?_
  refine xq 2 [(11, V a1), (10, Pt b1098 0), (7, Pt b1098 0), (6, Pt b1084 0), (1, V a1), (2, V a2)] ?_
  obtain ⟨r1139, hx1140, ho1137⟩ := obind ho1137
  have hF1146 : St _ _ _ _ _ _ ([.blk b1098 [v1100], .gs v1100 c1101 (csz api_Node)] ++ [.blk b1084 [.slice none 0 0], .blk b1081 [v45]]) := ((hS1093.front 1 rfl).front 1 rfl)
  obtain ⟨v1141, h1142, Z1147, A1149, hcl1143, hSc1144, rfl, rfl⟩ := arena_forest_has_ok F hF1146.preL q1099 hx1140
  have hZ1148 := hSc1144.zle
  have hS1145 := hF1146.call hSc1144
  replace hS1145 : St _ _ _ _ _ _ [.blk b1098 [v1100], .gs v1100 c1101 (csz api_Node), .blk b1084 [.slice none 0 0], .blk b1081 [v45]] := hS1145
  refine r_step rfl trivial (o_call hcl1143 rfl rfl rfl) ?_
  refine xq 1 [(13, .bool r1139), (7, Pt b1098 0), (6, Pt b1084 0), (1, V a1), (2, V a2)] ?_
  rcases ifs ho1137 with ⟨hp1150, ho1137⟩ | ⟨hp1150, ho1137⟩
  refine r_setb (t := 13) rfl hp1150 ?_
  refine xq 5 [(18, Pt b1098 0), (14, V a2), (13, .bool true), (7, Pt b1098 0), (6, Pt b1084 0), (1, V a1), (2, V a2)] ?_
  refine r_step rfl rfl (o_ldb (v := v1100) hS1145 (i := 0) rfl rfl (by kernel_rfl)) ?_
  obtain ⟨hc1151, ho1137⟩ := chk ho1137
  refine r_step rfl rfl (o_index rfl rfl (by kernel_rfl : slTy _ _ = some (csz api_Node)) (hS1145.gbased (j := 1) rfl (q1099.mono hZ1148) (by omega)) hc1151.1 hc1151.2) ?_
  refine xq 1 [(21, .pointer (some (elemA v1100 0 (csz api_Node) 2))), (14, V a2), (13, .bool true), (7, Pt b1098 0), (6, Pt b1084 0), (1, V a1), (2, V a2)] ?_
  obtain ⟨x1152, hx1153, ho1137⟩ := obind ho1137
  obtain ⟨cs1154, hc1155, he1156, ht1157⟩ := hS1145.gel (j := 1) rfl (q1099.mono hZ1148) (i := 0) hx1153
  obtain ⟨v1158, q1159, rfl⟩ := rc_api_Node hc1155
  refine r_step rfl rfl (o_lde (w := V x1152.To) he1156 rfl (by kernel_rfl)) ?_
  rcases ifs ho1137 with ⟨hp1160, ho1137⟩ | ⟨hp1160, ho1137⟩
  refine r_step rfl rfl (o_cmp rfl rfl (c_leq_T hp1160)) ?_
  refine xe 1 [(24, .bool true), (7, Pt b1098 0), (6, Pt b1084 0), (1, V a1), (2, V a2)] ?_
  refine cT 24 rfl ?_
  refine rg r16_3 ?_
  refine xq 3 [(27, V a2), (26, V a1), (25, Pt b1098 0), (7, Pt b1098 0), (6, Pt b1084 0)] ?_
  obtain ⟨r1161, hx1162, ho1137⟩ := obind ho1137
  have hF1168 : St _ _ _ _ _ _ ([.blk b1098 [v1100], .gs v1100 c1101 (csz api_Node)] ++ [.blk b1084 [.slice none 0 0], .blk b1081 [v45]]) := ((hS1145.front 1 rfl).front 1 rfl)
  obtain ⟨v1163, h1164, Z1169, A1171, hcl1165, hSc1166, c1173, rfl, rfl, q1172⟩ := arena_forest_grow_ok F hF1168.preL (q1099.mono hZ1148) hx1162
  have hZ1170 := hSc1166.zle
  have hS1167 := hF1168.call hSc1166
  replace hS1167 : St _ _ _ _ _ _ [.blk b1098 [v1100], .gs v1100 c1173 (csz api_Node), .blk b1084 [.slice none 0 0], .blk b1081 [v45]] := hS1167
  refine r_step rfl trivial (o_call hcl1165 rfl rfl rfl) ?_
  refine xf [(7, Pt b1098 0), (6, Pt b1084 0)] ?_
  obtain rfl := Option.some.inj ho1137
  exact ⟨_, r1161.Tree.Nodes, b1084, b1098, v1100, c1173, rfl, q1172, rfl, ((((hS1167.front 1 rfl).front 1 rfl).front 2 rfl).takeN 3)⟩
  refine r_step rfl rfl (o_cmp rfl rfl (c_leq_F hp1160)) ?_
  refine xe 1 [(24, .bool false), (7, Pt b1098 0), (6, Pt b1084 0), (1, V a1), (2, V a2)] ?_
  refine kF 24 rfl ?_
  obtain rfl := Option.some.inj ho1137
  exact ⟨_, r1087.Tree.Nodes, b1084, b1098, v1100, c1101, rfl, (q1099.mono hZ1148), rfl, ((((hS1145.front 1 rfl).front 1 rfl).front 2 rfl).takeN 3)⟩
  refine r_setb (t := 13) rfl (Bool.eq_false_iff.2 hp1150) ?_
  refine xe 11 [(24, .bool false), (7, Pt b1098 0), (6, Pt b1084 0), (1, V a1), (2, V a2)] ?_
  refine kF 24 rfl ?_
  obtain rfl := Option.some.inj ho1137
  exact ⟨_, r1087.Tree.Nodes, b1084, b1098, v1100, c1101, rfl, (q1099.mono hZ1148), rfl, ((((hS1145.front 1 rfl).front 1 rfl).front 2 rfl).takeN 3)⟩

def r27_0 : List COp := [u 4 (.assign (ci 0))]
def r27_1 : List COp := [u 7 (.move (t 0)), u 8 (.nilCheck (t 7)), u 9 (.fieldAddr 58 (t 8) 0), u 10 (.fieldAddr 27 (t 9) 0), u 11 (.load 25 (t 10)), u 12 (.move (t 1)), u 13 (.indexAddr 25 (t 11) (t 12)), u 14 (.load 46 (t 13)), u 5 (.alloc 46), o (.store 46 (t 5) (t 14))]
def r27_2 : List COp := [u 15 (.fieldAddr 46 (t 5) 4), u 16 (.load 44 (t 15)), u 17 (cb .len #[(t 16)] #[44]), u 6 (.assign (t 17))]
def r27_3 : List COp := [u 18 (.move (t 6)), u 19 (.binOp .gtr 3 (t 18) (ci 0) 3), u 20 (.move (t 19)), gT 20 (some 21) (.move (t 0)), gT 20 (some 22) (.fieldAddr 46 (t 5) 4), gT 20 (some 23) (.load 44 (t 22)), gT 20 (some 24) (.move (t 6)), gT 20 (some 25) (.binOp .sub 3 (t 24) (ci 1) 3), gT 20 (some 26) (.indexAddr 44 (t 23) (t 25)), gT 20 (some 27) (.load 3 (t 26)), gT 20 (some 28) (cf 26 #[(t 21), (t 27)] #[54, 3]), u 29 (.pick (t 20) (t 28) (.const (.bool false)))]
def r27_4 : List COpF := [uF 30 (.fieldAddr 46 (t 5) 1) .pure [], uF 31 (.load 3 (t 30)) .look [], uF 32 (.move (t 0)) .pure [], uF 33 (.nilCheck (t 32)) .pure [], uF 34 (.fieldAddr 58 (t 33) 0) .pure [], uF 35 (.fieldAddr 27 (t 34) 0) .pure [], uF 36 (.load 25 (t 35)) .look [], uF 37 (.fieldAddr 46 (t 5) 4) .pure [], uF 38 (.load 44 (t 37)) .look [], uF 39 (.move (t 6)) .pure [], uF 40 (.binOp .sub 3 (t 39) (ci 1) 3) .pure [], uF 41 (.indexAddr 44 (t 38) (t 40)) .pure [], uF 42 (.load 3 (t 41)) .look [], uF 43 (.indexAddr 25 (t 36) (t 42)) .pure [], uF 44 (.fieldAddr 46 (t 43) 2) .pure [], uF 45 (.load 3 (t 44)) .look [], uF 46 (cb .max #[(t 31), (t 45)] #[3, 3]) .pure [], uF 4 (.assign (t 46)) .pure []]
def r27_5 : List COp := [u 47 (.fieldAddr 46 (t 5) 1), u 48 (.load 3 (t 47)), u 4 (.assign (t 48))]
def arena_forest_end (F : Nat) (a0 : arena_forest) (a1 : Int) : Option Int :=
  if 0 ≤ a1 ∧ a1 < (a0.Tree.Nodes.length : Int) then
    (a0.Tree.Nodes[a1.toNat]?).bind fun x1339 =>
    ((if (0 : Int) < (x1339.Kids.length : Int) then
        if 0 ≤ (w64 ((x1339.Kids.length : Int) - 1)) ∧ (w64 ((x1339.Kids.length : Int) - 1)) < (x1339.Kids.length : Int) then
          (x1339.Kids[(w64 ((x1339.Kids.length : Int) - 1)).toNat]?).bind fun x1422 =>
          (arena_forest_has F a0 x1422).bind fun r1428 =>
          if r1428 = true then
            if 0 ≤ (w64 ((x1339.Kids.length : Int) - 1)) ∧ (w64 ((x1339.Kids.length : Int) - 1)) < (x1339.Kids.length : Int) then
              (x1339.Kids[(w64 ((x1339.Kids.length : Int) - 1)).toNat]?).bind fun x1448 =>
              if 0 ≤ x1448 ∧ x1448 < (a0.Tree.Nodes.length : Int) then
                (a0.Tree.Nodes[x1448.toNat]?).bind fun x1455 =>
                some (.inr (imax x1339.From x1455.To))
              else none
            else none
          else
            some (.inl x1339)
        else none
      else
        some (.inl x1339)) : Option (Sum api_Node Int)).bind fun o => match o with
      | .inl x1469 => some x1469.From
      | .inr y => some y
  else none
theorem arena_forest_end_ok (F : Nat) {h : AH} {Z : Zn} {a0 : arena_forest} {a1 : Int} {b1247 : Nat} {v1249 : Value} {c1250 : List Value} (hP : Pre Z h [.blk b1247 [v1249], .gs v1249 c1250 (csz api_Node)]) (q1248 : RCs (α := api_Node) Z c1250 a0.Tree.Nodes) {r : Int} (hm : arena_forest_end F a0 a1 = some r) :
    ∃ v h' Z' A', callI Go.Proofs.Try.prog 27 [Pt b1247 0, V a1] h = some (v, h') ∧ St h (idsL [.blk b1247 [v1249], .gs v1249 c1250 (csz api_Node)]) Z (0, 0) Z' h' A' ∧ V r = v ∧ A' = [.blk b1247 [v1249], .gs v1249 c1250 (csz api_Node)] := by
  refine fn_intro (A := [.blk b1247 [v1249], .gs v1249 c1250 (csz api_Node)]) (Q := fun v Z' A' => V r = v ∧ A' = [.blk b1247 [v1249], .gs v1249 c1250 (csz api_Node)]) Go.Proofs.Try.func27 rfl rfl (by kernel_rfl) hP ?_
  intro hs hS
  unfold arena_forest_end at hm
  refine sr r27_0 ?_
  refine xe 1 [(0, Pt b1247 0), (1, V a1)] ?_
  refine sr r27_1 ?_
  refine xq 4 [(10, Pt b1247 0), (0, Pt b1247 0), (1, V a1)] ?_
  refine r_step rfl trivial (o_ldb (v := v1249) hS (i := 0) rfl rfl (by kernel_rfl)) ?_
  refine xq 1 [(12, V a1), (11, v1249), (0, Pt b1247 0)] ?_
  obtain ⟨hc1338, hm⟩ := chk hm
  refine r_step rfl trivial (o_index rfl rfl (by kernel_rfl : slTy _ _ = some (csz api_Node)) (hS.gbased (j := 1) rfl q1248 (by omega)) hc1338.1 hc1338.2) ?_
  obtain ⟨x1339, hx1340, hm⟩ := obind hm
  obtain ⟨cs1341, hc1342, he1343, ht1344⟩ := hS.gel (j := 1) rfl q1248 (i := a1) hx1340
  obtain ⟨v1345, q1346, rfl⟩ := rc_api_Node hc1342
  refine r_step rfl trivial (o_lde (w := .agg #[V x1339.Kind, V x1339.From, V x1339.To, V x1339.Up, v1345, .bool x1339.Key]) he1343 rfl (by kernel_rfl)) ?_
  refine r_blk rfl trivial (o_alloc (cs := [V 0, V 0, V 0, V 0, .slice none 0 0, .bool false]) (by kernel_rfl)) hS ?_
  intro b1347 h1348 hS1349
  refine r_ex1 rfl trivial (o_stb (vs := [V x1339.Kind, V x1339.From, V x1339.To, V x1339.Up, v1345, .bool x1339.Key]) (cells' := (K46 v1345 x1339)) (L' := [.blk b1347 (K46 v1345 x1339), .blk b1247 [v1249], .gs v1249 c1250 (csz api_Node)]) hS1349 (i := 0) rfl rfl rfl rfl (by kernel_rfl) (one_cons rfl (one_cons rfl (one_cons rfl (one_cons rfl (one_cons (RS.one1 q1346) (one_cons rfl one_nil)))))) rfl rfl rfl) ?_
  intro h1350 hS1351
  refine xf [(5, Pt b1347 0), (0, Pt b1247 0)] ?_
  refine sq ?_
  refine sr r27_2 ?_
  refine xq 1 [(15, Pt b1347 4), (5, Pt b1347 0), (0, Pt b1247 0)] ?_
  refine r_step rfl trivial (o_ldb (v := v1345) hS1351 (i := 0) rfl rfl (by kernel_rfl)) ?_
  refine r_step rfl trivial (o_len rfl (RS.len q1346) ⟨_, Go.Proofs.Try.underlying44⟩) ?_
  refine xe 1 [(6, V (x1339.Kids.length : Int)), (5, Pt b1347 0), (0, Pt b1247 0)] ?_
  obtain ⟨o1419, ho1418, hm⟩ := obind hm
  refine W_seqJoin0 [5] (fun l h => ∃ Z1467 : Zn, ∃ x1469 : api_Node, ∃ b1468 : Nat, ∃ v1471 : Value, .inl x1469 = o1419 ∧ RS (α := Int) Z1467 v1471 x1469.Kids ∧ l = [(5, Pt b1468 0)] ∧ St hs (idsL [.blk b1247 [v1249], .gs v1249 c1250 (csz api_Node)]) Z (0, 0) Z1467 h [.blk b1247 [v1249], .gs v1249 c1250 (csz api_Node), .blk b1468 (K46 v1471 x1469)]) (by kernel_rfl) ?_ ?_
  rintro l h1472 ⟨Z1467, x1469, b1468, v1471, rfl, q1470, rfl, hS1473⟩
  try dsimp only at hm
  refine sr r27_5 ?_
  refine xq 1 [(47, Pt b1468 1)] ?_
  refine r_step rfl trivial (o_ldb (v := V x1469.From) hS1473 (i := 2) rfl rfl (by kernel_rfl)) ?_
  refine xe 1 [(4, V x1469.From)] ?_
  refine rt ?_
  refine ⟨rfl, ?_⟩
  obtain rfl := Option.some.inj hm
  refine ⟨_, _, _, ResL.tmp rfl (ResL.nil), (hS1473.takeN 2), ?_⟩
  exact ⟨rfl, rfl⟩
  refine rg r27_3 ?_
  refine xq 1 [(18, V (x1339.Kids.length : Int)), (6, V (x1339.Kids.length : Int)), (5, Pt b1347 0), (0, Pt b1247 0)] ?_
  rcases ifs ho1418 with ⟨hp1420, ho1418⟩ | ⟨hp1420, ho1418⟩
  refine r_step rfl trivial (o_cmp rfl rfl (c_gtr_T hp1420)) ?_
  refine xq 3 [(22, Pt b1347 4), (21, Pt b1247 0), (20, .bool true), (6, V (x1339.Kids.length : Int)), (5, Pt b1347 0), (0, Pt b1247 0)] ?_
  refine r_step rfl rfl (o_ldb (v := v1345) hS1351 (i := 0) rfl rfl (by kernel_rfl)) ?_
  refine xq 2 [(25, V (w64 ((x1339.Kids.length : Int) - 1))), (23, v1345), (21, Pt b1247 0), (20, .bool true), (6, V (x1339.Kids.length : Int)), (5, Pt b1347 0), (0, Pt b1247 0)] ?_
  obtain ⟨hc1421, ho1418⟩ := chk ho1418
  refine r_step rfl rfl (o_index rfl rfl (by kernel_rfl : slTy _ _ = some (csz Int)) (RS.based q1346 (by omega)) hc1421.1 hc1421.2) ?_
  obtain ⟨x1422, hx1423, ho1418⟩ := obind ho1418
  obtain ⟨cs1424, hc1425, he1426⟩ := RS.elz q1346 (i := w64 ((x1339.Kids.length : Int) - 1)) hx1423
  obtain rfl := rc_Int hc1425
  refine r_step rfl rfl (o_lde (w := V x1422) (he1426 _ (hS1351.zin0 (Zle.refl _))) rfl (by kernel_rfl)) ?_
  obtain ⟨r1428, hx1429, ho1418⟩ := obind ho1418
  have hF1435 : St _ _ _ _ _ _ ([.blk b1247 [v1249], .gs v1249 c1250 (csz api_Node)] ++ [.blk b1347 (K46 v1345 x1339)]) := ((hS1351.front 2 rfl).front 2 rfl)
  obtain ⟨v1430, h1431, Z1436, A1438, hcl1432, hSc1433, rfl, rfl⟩ := arena_forest_has_ok F hF1435.preL q1248 hx1429
  have hZ1437 := hSc1433.zle
  have hS1434 := hF1435.call hSc1433
  replace hS1434 : St _ _ _ _ _ _ [.blk b1247 [v1249], .gs v1249 c1250 (csz api_Node), .blk b1347 (K46 v1345 x1339)] := hS1434
  refine r_step rfl rfl (o_call hcl1432 rfl rfl rfl) ?_
  refine xe 1 [(29, .bool r1428), (6, V (x1339.Kids.length : Int)), (5, Pt b1347 0), (0, Pt b1247 0)] ?_
  rcases ifs ho1418 with ⟨hp1439, ho1418⟩ | ⟨hp1439, ho1418⟩
  refine W_condT (x := .tmp 29) (by kernel_rfl) rfl hp1439 ?_
  refine srF r27_4 hS1434 ?_
  intro bs1440 h1441 hlv1443 hS1442
  refine yq 1 [(30, Pt b1347 1), (6, V (x1339.Kids.length : Int)), (5, Pt b1347 0), (0, Pt b1247 0)] ?_
  have lt1444 : b1347 < bs1440 := hlv1443.1 _ (List.mem_of_getElem? (i := 2) rfl) _ (by simp [Itm.ids])
  refine e_lookB rfl trivial rfl (by show b1347 < _; omega) (same1 (v := V x1339.From) trivial) (o_ldb (v := V x1339.From) hS1442 (i := 2) rfl rfl (by kernel_rfl)) trivial ?_
  refine yq 4 [(35, Pt b1247 0), (31, V x1339.From), (6, V (x1339.Kids.length : Int)), (5, Pt b1347 0)] ?_
  have lt1445 : b1247 < bs1440 := hlv1443.1 _ (List.mem_of_getElem? (i := 0) rfl) _ (by simp [Itm.ids])
  refine e_lookB rfl trivial rfl (by show b1247 < _; omega) (same1 (v := v1249) (hS1442.gsim1 (i := 1) rfl)) (o_ldb (v := v1249) hS1442 (i := 0) rfl rfl (by kernel_rfl)) trivial ?_
  refine yq 1 [(37, Pt b1347 4), (36, v1249), (31, V x1339.From), (6, V (x1339.Kids.length : Int))] ?_
  have lt1446 : b1347 < bs1440 := hlv1443.1 _ (List.mem_of_getElem? (i := 2) rfl) _ (by simp [Itm.ids])
  refine e_lookB rfl trivial rfl (by show b1347 < _; omega) (same1 (v := v1345) (RS.sim1 (q1346.mono hZ1437))) (o_ldb (v := v1345) hS1442 (i := 2) rfl rfl (by kernel_rfl)) trivial ?_
  refine yq 2 [(40, V (w64 ((x1339.Kids.length : Int) - 1))), (38, v1345), (36, v1249), (31, V x1339.From)] ?_
  obtain ⟨hc1447, ho1418⟩ := chk ho1418
  refine e_val rfl trivial (o_index rfl rfl (by kernel_rfl : slTy _ _ = some (csz Int)) (RS.based (q1346.mono hZ1437) (by omega)) hc1447.1 hc1447.2) ?_
  obtain ⟨x1448, hx1449, ho1418⟩ := obind ho1418
  obtain ⟨cs1450, hc1451, he1452⟩ := RS.elz (q1346.mono hZ1437) (i := w64 ((x1339.Kids.length : Int) - 1)) hx1449
  obtain rfl := rc_Int hc1451
  refine e_lookZ rfl rfl trivial (fun h2 hz => o_lde (w := V x1448) (he1452 h2 hz) rfl (by kernel_rfl)) (hS1442.zin0 (Zle.refl _)) (same1 (v := V x1448) trivial) trivial ?_
  obtain ⟨hc1454, ho1418⟩ := chk ho1418
  refine e_val rfl trivial (o_index rfl rfl (by kernel_rfl : slTy _ _ = some (csz api_Node)) (hS1442.gbased (j := 1) rfl (q1248.mono hZ1437) (by omega)) hc1454.1 hc1454.2) ?_
  refine yq 1 [(44, .pointer (some (elemA v1249 x1448 (csz api_Node) 2))), (31, V x1339.From)] ?_
  obtain ⟨x1455, hx1456, ho1418⟩ := obind ho1418
  obtain ⟨cs1457, hc1458, he1459, ht1460⟩ := hS1442.gel (j := 1) rfl (q1248.mono hZ1437) (i := x1448) hx1456
  obtain ⟨v1461, q1462, rfl⟩ := rc_api_Node hc1458
  have ps1463 := pos_of hx1456
  have hB1464 := hS1442.gbased (j := 1) rfl (q1248.mono hZ1437) ps1463
  have lt1465 : (baseOf v1249).block < bs1440 := row_ltM (hlv1443.1 _ (List.mem_of_getElem? (i := 1) rfl)) hB1464
  refine e_lookB rfl trivial rfl (by show (baseOf v1249).block < _; omega) (same1 (v := V x1455.To) trivial) (o_lde (w := V x1455.To) he1459 rfl (by kernel_rfl)) trivial ?_
  refine ye 2 [(4, V (imax x1339.From x1455.To))] ?_
  have hS1466 := hS1442.unres
  refine rt ?_
  refine ⟨rfl, ?_⟩
  obtain rfl := Option.some.inj ho1418
  obtain rfl := Option.some.inj hm
  refine ⟨_, _, _, ResL.tmp rfl (ResL.nil), (hS1466.takeN 2), ?_⟩
  exact ⟨rfl, rfl⟩
  refine W_condF (x := .tmp 29) (by kernel_rfl) rfl (Bool.eq_false_iff.2 hp1439) ?_
  refine sk ?_
  obtain rfl := Option.some.inj ho1418
  exact ⟨_, x1339, b1347, v1345, rfl, (q1346.mono hZ1437), rfl, hS1434⟩
  refine r_step rfl trivial (o_cmp rfl rfl (c_gtr_F hp1420)) ?_
  refine xe 10 [(29, .bool false), (6, V (x1339.Kids.length : Int)), (5, Pt b1347 0), (0, Pt b1247 0)] ?_
  refine kF 29 rfl ?_
  obtain rfl := Option.some.inj ho1418
  exact ⟨_, x1339, b1347, v1345, rfl, q1346, rfl, (((hS1351.front 0 rfl).front 2 rfl).front 2 rfl)⟩

def r14_0 : List COp := [u 5 (.box 27 (t 0)), u 10 (.alloc 27), u 11 (.assign (ci 0))]
def r14_1 : List COp := [u 14 (.load 27 (t 5)), u 15 (cf 25 #[(t 14)] #[27]), u 12 (.assign (t 15))]
def r14_2 : List COp := [u 16 (.move (t 12)), u 17 (.move (t 1)), u 18 (cf 26 #[(t 16), (t 17)] #[54, 3]), u 19 (.unOp .not 4 (t 18)), u 20 (.move (t 19)), gN 20 (some 21) (.move (t 2)), gN 20 (some 22) (.binOp .lss 3 (t 21) (ci 1) 3), u 23 (.pick (t 20) (.const (.bool true)) (t 22)), u 24 (.move (t 23)), gN 24 (some 25) (.move (t 2)), gN 24 (some 26) (.binOp .gtr 3 (t 25) (ci 11) 3), u 27 (.pick (t 24) (.const (.bool true)) (t 26)), u 28 (.move (t 27)), gN 28 (some 29) (.move (t 3)), gN 28 (some 30) (.move (t 4)), gN 28 (some 31) (.binOp .gtr 3 (t 29) (t 30) 3), u 32 (.pick (t 28) (.const (.bool true)) (t 31)), u 33 (.move (t 32)), gN 33 (some 34) (.move (t 4)), gN 33 (some 35) (.move (t 12)), gN 33 (some 36) (.nilCheck (t 35)), gN 33 (some 37) (.fieldAddr 58 (t 36) 0), gN 33 (some 38) (.fieldAddr 27 (t 37) 0), gN 33 (some 39) (.load 25 (t 38)), gN 33 (some 40) (.indexAddr 25 (t 39) (ci 0)), gN 33 (some 41) (.fieldAddr 46 (t 40) 2), gN 33 (some 42) (.load 3 (t 41)), gN 33 (some 43) (.binOp .gtr 3 (t 34) (t 42) 3), u 44 (.pick (t 33) (.const (.bool true)) (t 43)), u 45 (.move (t 44)), gN 45 (some 46) (.move (t 3)), gN 45 (some 47) (.move (t 12)), gN 45 (some 48) (.move (t 1)), gN 45 (some 49) (cf 27 #[(t 47), (t 48)] #[54, 3]), gN 45 (some 50) (.binOp .lss 3 (t 46) (t 49) 3), u 51 (.pick (t 45) (.const (.bool true)) (t 50))]
def r14_3 : List COp := [u 52 (.move (t 12)), u 53 (.nilCheck (t 52)), u 54 (.fieldAddr 58 (t 53) 0), u 55 (.load 27 (t 54)), o (.store 27 (t 10) (t 55)), u 11 (.assign (ci (-1)))]
def r14_4 : List COp := [u 56 (.move (t 12)), u 57 (.nilCheck (t 56)), u 58 (.fieldAddr 58 (t 57) 0), u 59 (.fieldAddr 27 (t 58) 0), u 60 (.load 25 (t 59)), u 61 (cb .len #[(t 60)] #[25]), u 11 (.assign (t 61))]
def r14_5 : List COp := [u 62 (.move (t 12)), u 63 (.move (t 12)), u 64 (.nilCheck (t 63)), u 65 (.fieldAddr 58 (t 64) 0), u 66 (.fieldAddr 27 (t 65) 0), u 67 (.load 25 (t 66)), u 68 (.move (t 2)), u 69 (.move (t 3)), u 70 (.move (t 4)), u 71 (.move (t 1)), u 72 (.build 46 #[(0, (t 68)), (1, (t 69)), (2, (t 70)), (3, (t 71))]), u 73 (.buildSlice 25 1 #[(0, (t 72))]), u 74 (cb .append #[(t 67), (t 73)] #[25, 25]), u 75 (.nilCheck (t 62)), u 76 (.fieldAddr 58 (t 75) 0), u 77 (.fieldAddr 27 (t 76) 0), o (.store 25 (t 77) (t 74))]
def r14_6 : List COp := [u 78 (.move (t 12)), u 79 (.nilCheck (t 78)), u 80 (.fieldAddr 58 (t 79) 0), u 81 (.fieldAddr 27 (t 80) 0), u 82 (.load 25 (t 81)), u 83 (.move (t 1)), u 84 (.indexAddr 25 (t 82) (t 83)), u 85 (.fieldAddr 46 (t 84) 4), u 86 (.load 44 (t 85)), u 13 (.assign (t 86))]
def r14_7 : List COpF := [uF 87 (.move (t 12)) .pure [], uF 88 (.nilCheck (t 87)) .pure [], uF 89 (.fieldAddr 58 (t 88) 0) .pure [], uF 90 (.fieldAddr 27 (t 89) 0) .pure [], uF 91 (.load 25 (t 90)) .look [], uF 92 (.move (t 1)) .pure [], uF 93 (.move (t 13)) .pure [], uF 94 (.move (t 13)) .pure [], uF 95 (cb .len #[(t 94)] #[44]) .pure [], uF 96 (.move (t 13)) .pure [], uF 97 (cb .len #[(t 96)] #[44]) .pure [], uF 98 (.slice 44 (t 93) none (some (t 95)) (some (t 97))) .pure [], uF 99 (.move (t 11)) .pure [], uF 100 (.buildSlice 44 1 #[(0, (t 99))]) .fresh [], uF 101 (cb .append #[(t 98), (t 100)] #[44, 44]) .make [], uF 102 (.indexAddr 25 (t 91) (t 92)) .pure [], uF 103 (.fieldAddr 46 (t 102) 4) .pure [], oF (.store 44 (t 103) (t 101)) .make [4]]
def r14_8 : List COp := [u 104 (.move (t 12)), u 105 (.move (t 1)), u 106 (.move (t 4)), u 107 (cf 28 #[(t 104), (t 105), (t 106)] #[54, 3, 3])]
def r14_9 : List COp := [u 108 (.move (t 12)), u 109 (.nilCheck (t 108)), u 110 (.fieldAddr 58 (t 109) 0), u 111 (.load 27 (t 110)), u 112 (.move (t 11)), o (.store 27 (t 10) (t 111)), u 11 (.assign (t 112))]
def arena_Add (F : Nat) (a0 : arena_Tree) (a1 : Int) (a2 : Int) (a3 : Int) (a4 : Int) : Option (arena_Tree × Int) :=
  (arena_own F a0).bind fun r1693 =>
  (arena_forest_has F r1693 a1).bind fun r1806 =>
  if r1806 = true then
    if a2 < (1 : Int) then
      some (r1693.Tree, (-1))
    else
      if (11 : Int) < a2 then
        some (r1693.Tree, (-1))
      else
        if a4 < a3 then
          some (r1693.Tree, (-1))
        else
          if 0 ≤ (0 : Int) ∧ (0 : Int) < (r1693.Tree.Nodes.length : Int) then
            (r1693.Tree.Nodes[(0 : Int).toNat]?).bind fun x1834 =>
            if x1834.To < a4 then
              some (r1693.Tree, (-1))
            else
              (arena_forest_end F r1693 a1).bind fun r1847 =>
              if a3 < r1847 then
                some (r1693.Tree, (-1))
              else
                if r1693.Tree.Nodes.length + [(⟨a2, a3, a4, a1, [], false⟩ : api_Node)].length ≤ 2199023255552 then
                  if 0 ≤ a1 ∧ a1 < ((r1693.Tree.Nodes ++ [(⟨a2, a3, a4, a1, [], false⟩ : api_Node)]).length : Int) then
                    ((r1693.Tree.Nodes ++ [(⟨a2, a3, a4, a1, [], false⟩ : api_Node)])[a1.toNat]?).bind fun x1878 =>
                    if 0 ≤ (0 : Int) ∧ (0 : Int) ≤ (x1878.Kids.length : Int) ∧ (x1878.Kids.length : Int) ≤ (x1878.Kids.length : Int) then
                      if ((x1878.Kids.take (x1878.Kids.length : Int).toNat).drop (0 : Int).toNat).length + ([(r1693.Tree.Nodes.length : Int)] : List Int).length ≤ 17592186044416 ∧ 0 < ([(r1693.Tree.Nodes.length : Int)] : List Int).length then
                        if 0 ≤ a1 ∧ a1 < ((r1693.Tree.Nodes ++ [(⟨a2, a3, a4, a1, [], false⟩ : api_Node)]).length : Int) then
                          ((r1693.Tree.Nodes ++ [(⟨a2, a3, a4, a1, [], false⟩ : api_Node)])[a1.toNat]?).bind fun x1914 =>
                          (arena_forest_grow F (⟨(⟨(r1693.Tree.Nodes ++ [(⟨a2, a3, a4, a1, [], false⟩ : api_Node)]).set a1.toNat (⟨x1914.Kind, x1914.From, x1914.To, x1914.Up, ((x1878.Kids.take (x1878.Kids.length : Int).toNat).drop (0 : Int).toNat) ++ ([(r1693.Tree.Nodes.length : Int)] : List Int), x1914.Key⟩ : api_Node)⟩ : arena_Tree)⟩ : arena_forest) a1 a4).bind fun r1928 =>
                          some (r1928.Tree, (r1693.Tree.Nodes.length : Int))
                        else none
                      else none
                    else none
                  else none
                else none
          else none
  else
    some (r1693.Tree, (-1))
theorem arena_Add_ok (F : Nat) {h : AH} {Z : Zn} {a0 : arena_Tree} {a1 : Int} {a2 : Int} {a3 : Int} {a4 : Int} {v1192 : Value} (hP : Pre Z h []) (q1191 : RS (α := api_Node) Z v1192 a0.Nodes) {r : arena_Tree × Int} (hm : arena_Add F a0 a1 a2 a3 a4 = some r) :
    ∃ v h' Z' A', callI Go.Proofs.Try.prog 14 [.agg #[v1192], V a1, V a2, V a3, V a4] h = some (v, h') ∧ St h (idsL []) Z (0, 0) Z' h' A' ∧ ∃ v1685 : Value, ∃ c1686 : List Value, .tuple #[.agg #[v1685], V r.2] = v ∧ A' = [.gs v1685 c1686 (csz api_Node)] ∧ RCs (α := api_Node) Z' c1686 r.1.Nodes := by
  refine fn_intro (A := []) (Q := fun v Z' A' => ∃ v1685 : Value, ∃ c1686 : List Value, .tuple #[.agg #[v1685], V r.2] = v ∧ A' = [.gs v1685 c1686 (csz api_Node)] ∧ RCs (α := api_Node) Z' c1686 r.1.Nodes) Go.Proofs.Try.func14 rfl rfl (by kernel_rfl) hP ?_
  intro hs hS
  unfold arena_Add at hm
  replace hS : St hs [] Z (0, 0) Z hs [] := hS
  refine sr r14_0 ?_
  refine r_blk rfl trivial (o_box (cs := [v1192]) rfl rfl) hS ?_
  intro b1687 h1688 hS1689
  refine r_blk rfl trivial (o_alloc (cs := [.slice none 0 0]) (by kernel_rfl)) hS1689 ?_
  intro b1690 h1691 hS1692
  refine xe 1 [(10, Pt b1690 0), (5, Pt b1687 0), (1, V a1), (2, V a2), (3, V a3), (4, V a4)] ?_
  refine sr r14_1 ?_
  refine r_step rfl trivial (o_ldb (v := .agg #[v1192]) hS1692 (i := 1) rfl rfl (by kernel_rfl)) ?_
  obtain ⟨r1693, hx1694, hm⟩ := obind hm
  have hSr1700 : St _ _ _ _ _ _ ([] ++ [.blk b1690 [.slice none 0 0], .blk b1687 [v1192]]) := hS1692
  obtain ⟨v1695, h1696, Z1701, A1703, hcl1697, hSc1698, b1704, v1706, c1707, rfl, rfl, q1705⟩ := arena_own_ok F hSr1700.preL q1191 hx1694
  have hS1699 := hSr1700.call hSc1698
  have hZ1702 := hSc1698.zle
  replace hS1699 : St _ _ _ _ _ _ [.blk b1704 [v1706], .gs v1706 c1707 (csz api_Node), .blk b1690 [.slice none 0 0], .blk b1687 [v1192]] := hS1699
  refine r_step rfl trivial (o_call hcl1697 rfl rfl rfl) ?_
  refine xe 1 [(12, Pt b1704 0), (10, Pt b1690 0), (1, V a1), (2, V a2), (3, V a3), (4, V a4)] ?_
  refine sq ?_
  refine sr r14_2 ?_
  refine xq 2 [(17, V a1), (16, Pt b1704 0), (12, Pt b1704 0), (10, Pt b1690 0), (1, V a1), (2, V a2), (3, V a3), (4, V a4)] ?_
  obtain ⟨r1806, hx1807, hm⟩ := obind hm
  have hF1813 : St _ _ _ _ _ _ ([.blk b1704 [v1706], .gs v1706 c1707 (csz api_Node)] ++ [.blk b1690 [.slice none 0 0], .blk b1687 [v1192]]) := ((hS1699.front 1 rfl).front 1 rfl)
  obtain ⟨v1808, h1809, Z1814, A1816, hcl1810, hSc1811, rfl, rfl⟩ := arena_forest_has_ok F hF1813.preL q1705 hx1807
  have hZ1815 := hSc1811.zle
  have hS1812 := hF1813.call hSc1811
  replace hS1812 : St _ _ _ _ _ _ [.blk b1704 [v1706], .gs v1706 c1707 (csz api_Node), .blk b1690 [.slice none 0 0], .blk b1687 [v1192]] := hS1812
  refine r_step rfl trivial (o_call hcl1810 rfl rfl rfl) ?_
  rcases ifs hm with ⟨hp1817, hm⟩ | ⟨hp1817, hm⟩
  refine r_setb (t := 18) rfl hp1817 ?_
  refine xq 3 [(21, V a2), (20, .bool false), (12, Pt b1704 0), (10, Pt b1690 0), (1, V a1), (2, V a2), (3, V a3), (4, V a4)] ?_
  rcases ifs hm with ⟨hp1818, hm⟩ | ⟨hp1818, hm⟩
  refine r_step rfl rfl (o_cmp rfl rfl (c_lss_T hp1818)) ?_
  refine xe 29 [(51, .bool true), (12, Pt b1704 0), (10, Pt b1690 0), (1, V a1), (2, V a2), (3, V a3), (4, V a4)] ?_
  refine cT 51 rfl ?_
  refine sr r14_3 ?_
  refine xq 3 [(54, Pt b1704 0), (10, Pt b1690 0)] ?_
  refine r_step rfl trivial (o_ldb (v := .agg #[v1706]) hS1812 (i := 0) rfl rfl (by kernel_rfl)) ?_
  refine r_ex1 rfl trivial (o_stb (vs := [v1706]) (cells' := [v1706]) (L' := [.blk b1704 [v1706], .gs v1706 c1707 (csz api_Node), .blk b1690 [v1706], .blk b1687 [v1192]]) hS1812 (i := 2) rfl rfl rfl rfl (by kernel_rfl) (one_cons (hS1812.gone1 (i := 1) rfl) one_nil) rfl rfl rfl) ?_
  intro h1821 hS1822
  refine xe 1 [(11, V (-1)), (10, Pt b1690 0)] ?_
  refine rt ?_
  refine ⟨rfl, ?_⟩
  obtain rfl := Option.some.inj hm
  refine ⟨_, _, _, ResL.cell (v := .agg #[v1706]) rfl hS1822 (i := 2) rfl (by kernel_rfl) (ResL.tmp rfl (ResL.nil)), ((hS1822.front 1 rfl).takeN 1), ?_⟩
  exact ⟨v1706, c1707, rfl, rfl, (q1705.mono hZ1815)⟩
  refine r_step rfl rfl (o_cmp rfl rfl (c_lss_F hp1818)) ?_
  refine xq 3 [(25, V a2), (24, .bool false), (12, Pt b1704 0), (10, Pt b1690 0), (1, V a1), (2, V a2), (3, V a3), (4, V a4)] ?_
  rcases ifs hm with ⟨hp1823, hm⟩ | ⟨hp1823, hm⟩
  refine r_step rfl rfl (o_cmp rfl rfl (c_gtr_T hp1823)) ?_
  refine xe 25 [(51, .bool true), (12, Pt b1704 0), (10, Pt b1690 0), (1, V a1), (2, V a2), (3, V a3), (4, V a4)] ?_
  refine cT 51 rfl ?_
  refine sr r14_3 ?_
  refine xq 3 [(54, Pt b1704 0), (10, Pt b1690 0)] ?_
  refine r_step rfl trivial (o_ldb (v := .agg #[v1706]) hS1812 (i := 0) rfl rfl (by kernel_rfl)) ?_
  refine r_ex1 rfl trivial (o_stb (vs := [v1706]) (cells' := [v1706]) (L' := [.blk b1704 [v1706], .gs v1706 c1707 (csz api_Node), .blk b1690 [v1706], .blk b1687 [v1192]]) hS1812 (i := 2) rfl rfl rfl rfl (by kernel_rfl) (one_cons (hS1812.gone1 (i := 1) rfl) one_nil) rfl rfl rfl) ?_
  intro h1826 hS1827
  refine xe 1 [(11, V (-1)), (10, Pt b1690 0)] ?_
  refine rt ?_
  refine ⟨rfl, ?_⟩
  obtain rfl := Option.some.inj hm
  refine ⟨_, _, _, ResL.cell (v := .agg #[v1706]) rfl hS1827 (i := 2) rfl (by kernel_rfl) (ResL.tmp rfl (ResL.nil)), ((hS1827.front 1 rfl).takeN 1), ?_⟩
  exact ⟨v1706, c1707, rfl, rfl, (q1705.mono hZ1815)⟩
  refine r_step rfl rfl (o_cmp rfl rfl (c_gtr_F hp1823)) ?_
  refine xq 4 [(30, V a4), (29, V a3), (28, .bool false), (12, Pt b1704 0), (10, Pt b1690 0), (1, V a1), (2, V a2), (3, V a3), (4, V a4)] ?_
  rcases ifs hm with ⟨hp1828, hm⟩ | ⟨hp1828, hm⟩
  refine r_step rfl rfl (o_cmp rfl rfl (c_gtr_T hp1828)) ?_
  refine xe 20 [(51, .bool true), (12, Pt b1704 0), (10, Pt b1690 0), (1, V a1), (2, V a2), (3, V a3), (4, V a4)] ?_
  refine cT 51 rfl ?_
  refine sr r14_3 ?_
  refine xq 3 [(54, Pt b1704 0), (10, Pt b1690 0)] ?_
  refine r_step rfl trivial (o_ldb (v := .agg #[v1706]) hS1812 (i := 0) rfl rfl (by kernel_rfl)) ?_
  refine r_ex1 rfl trivial (o_stb (vs := [v1706]) (cells' := [v1706]) (L' := [.blk b1704 [v1706], .gs v1706 c1707 (csz api_Node), .blk b1690 [v1706], .blk b1687 [v1192]]) hS1812 (i := 2) rfl rfl rfl rfl (by kernel_rfl) (one_cons (hS1812.gone1 (i := 1) rfl) one_nil) rfl rfl rfl) ?_
  intro h1831 hS1832
  refine xe 1 [(11, V (-1)), (10, Pt b1690 0)] ?_
  refine rt ?_
  refine ⟨rfl, ?_⟩
  obtain rfl := Option.some.inj hm
  refine ⟨_, _, _, ResL.cell (v := .agg #[v1706]) rfl hS1832 (i := 2) rfl (by kernel_rfl) (ResL.tmp rfl (ResL.nil)), ((hS1832.front 1 rfl).takeN 1), ?_⟩
  exact ⟨v1706, c1707, rfl, rfl, (q1705.mono hZ1815)⟩
  refine r_step rfl rfl (o_cmp rfl rfl (c_gtr_F hp1828)) ?_
  refine xq 7 [(38, Pt b1704 0), (34, V a4), (33, .bool false), (12, Pt b1704 0), (10, Pt b1690 0), (1, V a1), (2, V a2), (3, V a3), (4, V a4)] ?_
  refine r_step rfl rfl (o_ldb (v := v1706) hS1812 (i := 0) rfl rfl (by kernel_rfl)) ?_
  obtain ⟨hc1833, hm⟩ := chk hm
  refine r_step rfl rfl (o_index rfl rfl (by kernel_rfl : slTy _ _ = some (csz api_Node)) (hS1812.gbased (j := 1) rfl (q1705.mono hZ1815) (by omega)) hc1833.1 hc1833.2) ?_
  refine xq 1 [(41, .pointer (some (elemA v1706 0 (csz api_Node) 2))), (34, V a4), (33, .bool false), (12, Pt b1704 0), (10, Pt b1690 0), (1, V a1), (2, V a2), (3, V a3), (4, V a4)] ?_
  obtain ⟨x1834, hx1835, hm⟩ := obind hm
  obtain ⟨cs1836, hc1837, he1838, ht1839⟩ := hS1812.gel (j := 1) rfl (q1705.mono hZ1815) (i := 0) hx1835
  obtain ⟨v1840, q1841, rfl⟩ := rc_api_Node hc1837
  refine r_step rfl rfl (o_lde (w := V x1834.To) he1838 rfl (by kernel_rfl)) ?_
  rcases ifs hm with ⟨hp1842, hm⟩ | ⟨hp1842, hm⟩
  refine r_step rfl rfl (o_cmp rfl rfl (c_gtr_T hp1842)) ?_
  refine xe 8 [(51, .bool true), (12, Pt b1704 0), (10, Pt b1690 0), (1, V a1), (2, V a2), (3, V a3), (4, V a4)] ?_
  refine cT 51 rfl ?_
  refine sr r14_3 ?_
  refine xq 3 [(54, Pt b1704 0), (10, Pt b1690 0)] ?_
  refine r_step rfl trivial (o_ldb (v := .agg #[v1706]) hS1812 (i := 0) rfl rfl (by kernel_rfl)) ?_
  refine r_ex1 rfl trivial (o_stb (vs := [v1706]) (cells' := [v1706]) (L' := [.blk b1704 [v1706], .gs v1706 c1707 (csz api_Node), .blk b1690 [v1706], .blk b1687 [v1192]]) hS1812 (i := 2) rfl rfl rfl rfl (by kernel_rfl) (one_cons (hS1812.gone1 (i := 1) rfl) one_nil) rfl rfl rfl) ?_
  intro h1845 hS1846
  refine xe 1 [(11, V (-1)), (10, Pt b1690 0)] ?_
  refine rt ?_
  refine ⟨rfl, ?_⟩
  obtain rfl := Option.some.inj hm
  refine ⟨_, _, _, ResL.cell (v := .agg #[v1706]) rfl hS1846 (i := 2) rfl (by kernel_rfl) (ResL.tmp rfl (ResL.nil)), ((hS1846.front 1 rfl).takeN 1), ?_⟩
  exact ⟨v1706, c1707, rfl, rfl, (q1705.mono hZ1815)⟩
  refine r_step rfl rfl (o_cmp rfl rfl (c_gtr_F hp1842)) ?_
  refine xq 5 [(48, V a1), (47, Pt b1704 0), (46, V a3), (45, .bool false), (12, Pt b1704 0), (10, Pt b1690 0), (1, V a1), (2, V a2), (3, V a3), (4, V a4)] ?_
  obtain ⟨r1847, hx1848, hm⟩ := obind hm
  have hF1854 : St _ _ _ _ _ _ ([.blk b1704 [v1706], .gs v1706 c1707 (csz api_Node)] ++ [.blk b1690 [.slice none 0 0], .blk b1687 [v1192]]) := ((hS1812.front 1 rfl).front 1 rfl)
  obtain ⟨v1849, h1850, Z1855, A1857, hcl1851, hSc1852, rfl, rfl⟩ := arena_forest_end_ok F hF1854.preL (q1705.mono hZ1815) hx1848
  have hZ1856 := hSc1852.zle
  have hS1853 := hF1854.call hSc1852
  replace hS1853 : St _ _ _ _ _ _ [.blk b1704 [v1706], .gs v1706 c1707 (csz api_Node), .blk b1690 [.slice none 0 0], .blk b1687 [v1192]] := hS1853
  refine r_step rfl rfl (o_call hcl1851 rfl rfl rfl) ?_
  rcases ifs hm with ⟨hp1858, hm⟩ | ⟨hp1858, hm⟩
  refine r_step rfl rfl (o_cmp rfl rfl (c_lss_T hp1858)) ?_
  refine xe 1 [(51, .bool true), (12, Pt b1704 0), (10, Pt b1690 0), (1, V a1), (2, V a2), (3, V a3), (4, V a4)] ?_
  refine cT 51 rfl ?_
  refine sr r14_3 ?_
  refine xq 3 [(54, Pt b1704 0), (10, Pt b1690 0)] ?_
  refine r_step rfl trivial (o_ldb (v := .agg #[v1706]) hS1853 (i := 0) rfl rfl (by kernel_rfl)) ?_
  refine r_ex1 rfl trivial (o_stb (vs := [v1706]) (cells' := [v1706]) (L' := [.blk b1704 [v1706], .gs v1706 c1707 (csz api_Node), .blk b1690 [v1706], .blk b1687 [v1192]]) hS1853 (i := 2) rfl rfl rfl rfl (by kernel_rfl) (one_cons (hS1853.gone1 (i := 1) rfl) one_nil) rfl rfl rfl) ?_
  intro h1861 hS1862
  refine xe 1 [(11, V (-1)), (10, Pt b1690 0)] ?_
  refine rt ?_
  refine ⟨rfl, ?_⟩
  obtain rfl := Option.some.inj hm
  refine ⟨_, _, _, ResL.cell (v := .agg #[v1706]) rfl hS1862 (i := 2) rfl (by kernel_rfl) (ResL.tmp rfl (ResL.nil)), ((hS1862.front 1 rfl).takeN 1), ?_⟩
  exact ⟨v1706, c1707, rfl, rfl, (q1705.mono (hZ1815.trans hZ1856))⟩
  refine r_step rfl rfl (o_cmp rfl rfl (c_lss_F hp1858)) ?_
  refine xe 1 [(51, .bool false), (12, Pt b1704 0), (10, Pt b1690 0), (1, V a1), (2, V a2), (3, V a3), (4, V a4)] ?_
  refine kF 51 rfl ?_
  refine sr r14_4 ?_
  refine xq 4 [(59, Pt b1704 0), (12, Pt b1704 0), (10, Pt b1690 0), (1, V a1), (2, V a2), (3, V a3), (4, V a4)] ?_
  refine r_step rfl trivial (o_ldb (v := v1706) hS1853 (i := 0) rfl rfl (by kernel_rfl)) ?_
  refine r_step rfl trivial (o_len rfl (hS1853.glen (i := 1) rfl (q1705.mono (hZ1815.trans hZ1856))) ⟨_, Go.Proofs.Try.underlying25⟩) ?_
  refine xe 1 [(11, V (r1693.Tree.Nodes.length : Int)), (12, Pt b1704 0), (10, Pt b1690 0), (1, V a1), (2, V a2), (3, V a3), (4, V a4)] ?_
  refine sr r14_5 ?_
  refine xq 5 [(66, Pt b1704 0), (62, Pt b1704 0), (11, V (r1693.Tree.Nodes.length : Int)), (12, Pt b1704 0), (10, Pt b1690 0), (1, V a1), (2, V a2), (3, V a3), (4, V a4)] ?_
  refine r_step rfl trivial (o_ldb (v := v1706) hS1853 (i := 0) rfl rfl (by kernel_rfl)) ?_
  refine xq 5 [(72, .agg #[V a2, V a3, V a4, V a1, .slice none 0 0, .bool false]), (67, v1706), (62, Pt b1704 0), (11, V (r1693.Tree.Nodes.length : Int)), (12, Pt b1704 0), (10, Pt b1690 0), (1, V a1), (4, V a4)] ?_
  have q1866 : RCs (α := api_Node) Z1855 [V a2, V a3, V a4, V a1, .slice none 0 0, .bool false] [(⟨a2, a3, a4, a1, [], false⟩ : api_Node)] := RCs.cons (cs := [V a2, V a3, V a4, V a1, .slice none 0 0, .bool false]) ⟨_, (RS.nil0 _), rfl⟩ (RCs.nil0 _)
  refine r_row rfl trivial (o_bs (cells := [V a2, V a3, V a4, V a1, .slice none 0 0, .bool false]) (s := 6) (by kernel_rfl)) (by kernel_rfl) hS1853 ?_
  intro v1863 h1864 hS1865
  replace hS1865 : St _ _ _ _ _ _ [.gs v1863 [V a2, V a3, V a4, V a1, .slice none 0 0, .bool false] (csz api_Node), .blk b1704 [v1706], .gs v1706 c1707 (csz api_Node), .blk b1690 [.slice none 0 0], .blk b1687 [v1192]] := hS1865
  obtain ⟨hc1874, hm⟩ := chk hm
  refine r_ex3 rfl trivial (o_app (ys := [(⟨a2, a3, a4, a1, [], false⟩ : api_Node)]) (by_ := 64) hS1865 (i := 2) rfl (q1705.mono (hZ1815.trans hZ1856)) ((hS1865).gnews (j := 0) rfl q1866) rfl rfl (by kernel_rfl) (by omega) (by omega)) ?_
  rintro v1869 c1870 h1871 ⟨q1873, hS1872⟩
  replace hS1872 : St _ _ _ _ _ _ [.gs v1863 [V a2, V a3, V a4, V a1, .slice none 0 0, .bool false] (csz api_Node), .blk b1704 [v1706], .gs v1869 c1870 (csz api_Node), .blk b1690 [.slice none 0 0], .blk b1687 [v1192]] := hS1872
  refine xq 3 [(77, Pt b1704 0), (74, v1869), (11, V (r1693.Tree.Nodes.length : Int)), (12, Pt b1704 0), (10, Pt b1690 0), (1, V a1), (4, V a4)] ?_
  refine r_ex1 rfl trivial (o_stb (vs := [v1869]) (cells' := [v1869]) (L' := [.gs v1863 [V a2, V a3, V a4, V a1, .slice none 0 0, .bool false] (csz api_Node), .blk b1704 [v1869], .gs v1869 c1870 (csz api_Node), .blk b1690 [.slice none 0 0], .blk b1687 [v1192]]) hS1872 (i := 1) rfl rfl rfl (hS1872.gcell1 (i := 2) rfl) (by kernel_rfl) (one_cons (hS1872.gone1 (i := 2) rfl) one_nil) rfl rfl rfl) ?_
  intro h1875 hS1876
  refine xf [(11, V (r1693.Tree.Nodes.length : Int)), (12, Pt b1704 0), (10, Pt b1690 0), (1, V a1), (4, V a4)] ?_
  refine sr r14_6 ?_
  refine xq 4 [(81, Pt b1704 0), (11, V (r1693.Tree.Nodes.length : Int)), (12, Pt b1704 0), (10, Pt b1690 0), (1, V a1), (4, V a4)] ?_
  refine r_step rfl trivial (o_ldb (v := v1869) hS1876 (i := 1) rfl rfl (by kernel_rfl)) ?_
  refine xq 1 [(83, V a1), (82, v1869), (11, V (r1693.Tree.Nodes.length : Int)), (12, Pt b1704 0), (10, Pt b1690 0), (1, V a1), (4, V a4)] ?_
  obtain ⟨hc1877, hm⟩ := chk hm
  refine r_step rfl trivial (o_index rfl rfl (by kernel_rfl : slTy _ _ = some (csz api_Node)) (hS1876.gbased (j := 2) rfl q1873 (by omega)) hc1877.1 hc1877.2) ?_
  refine xq 1 [(85, .pointer (some (elemA v1869 a1 (csz api_Node) 4))), (11, V (r1693.Tree.Nodes.length : Int)), (12, Pt b1704 0), (10, Pt b1690 0), (1, V a1), (4, V a4)] ?_
  obtain ⟨x1878, hx1879, hm⟩ := obind hm
  obtain ⟨cs1880, hc1881, he1882, ht1883⟩ := hS1876.gel (j := 2) rfl q1873 (i := a1) hx1879
  obtain ⟨v1884, q1885, rfl⟩ := rc_api_Node hc1881
  refine r_step rfl trivial (o_lde (w := v1884) he1882 rfl (by kernel_rfl)) ?_
  refine xe 1 [(13, v1884), (11, V (r1693.Tree.Nodes.length : Int)), (12, Pt b1704 0), (10, Pt b1690 0), (1, V a1), (4, V a4)] ?_
  refine srF r14_7 hS1876 ?_
  intro bs1886 h1887 hlv1889 hS1888
  refine yq 4 [(90, Pt b1704 0), (13, v1884), (11, V (r1693.Tree.Nodes.length : Int)), (12, Pt b1704 0), (10, Pt b1690 0), (1, V a1), (4, V a4)] ?_
  have lt1890 : b1704 < bs1886 := hlv1889.1 _ (List.mem_of_getElem? (i := 1) rfl) _ (by simp [Itm.ids])
  refine e_lookB rfl trivial rfl (by show b1704 < _; omega) (same1 (v := v1869) (hS1888.gsim1 (i := 2) rfl)) (o_ldb (v := v1869) hS1888 (i := 1) rfl rfl (by kernel_rfl)) trivial ?_
  refine yq 3 [(94, v1884), (93, v1884), (92, V a1), (91, v1869), (13, v1884), (11, V (r1693.Tree.Nodes.length : Int)), (12, Pt b1704 0), (10, Pt b1690 0), (1, V a1), (4, V a4)] ?_
  refine e_val rfl trivial (o_len rfl (RS.len q1885) ⟨_, Go.Proofs.Try.underlying44⟩) ?_
  refine yq 1 [(96, v1884), (95, V (x1878.Kids.length : Int)), (93, v1884), (92, V a1), (91, v1869), (11, V (r1693.Tree.Nodes.length : Int)), (12, Pt b1704 0), (10, Pt b1690 0), (1, V a1), (4, V a4)] ?_
  refine e_val rfl trivial (o_len rfl (RS.len q1885) ⟨_, Go.Proofs.Try.underlying44⟩) ?_
  obtain ⟨hc1894, hm⟩ := chk hm
  refine e_exv rfl trivial (o_slice3 (a := 0) (b := (x1878.Kids.length : Int)) q1885 rfl (by kernel_rfl : slTy _ _ = some (csz Int)) rfl rfl rfl hc1894.1 hc1894.2.1 hc1894.2.2) ?_
  rintro v1891 ⟨q1892, cp1893⟩
  refine yq 1 [(99, V (r1693.Tree.Nodes.length : Int)), (98, v1891), (92, V a1), (91, v1869), (11, V (r1693.Tree.Nodes.length : Int)), (12, Pt b1704 0), (10, Pt b1690 0), (1, V a1), (4, V a4)] ?_
  have q1898 : RCs (α := Int) Z1855 [V (r1693.Tree.Nodes.length : Int)] ([(r1693.Tree.Nodes.length : Int)] : List Int) := RCs.cons (cs := [V (r1693.Tree.Nodes.length : Int)]) rfl (RCs.nil0 _)
  refine e_row rfl trivial (o_bs (cells := [V (r1693.Tree.Nodes.length : Int)]) (s := 1) (by kernel_rfl)) (by kernel_rfl) hS1888 (by omega) (Nat.add_lt_add_left (by decide) _) ?_
  intro v1895 h1896 b1899 eb1900 ec1901 hS1897
  replace hS1897 : St _ _ _ _ _ _ [.gs v1895 [V (r1693.Tree.Nodes.length : Int)] (csz Int), .gs v1863 [V a2, V a3, V a4, V a1, .slice none 0 0, .bool false] (csz api_Node), .blk b1704 [v1869], .gs v1869 c1870 (csz api_Node), .blk b1690 [.slice none 0 0], .blk b1687 [v1192]] := hS1897
  obtain ⟨hc1908, hm⟩ := chk hm
  refine e_ex3c rfl trivial hS1897 (o_appCopy (ys := ([(r1693.Tree.Nodes.length : Int)] : List Int)) (by_ := 8) (hS1897.lown) q1892 cp1893 ((hS1897.lown).gnews (j := 0) rfl q1898) (by omega) rfl rfl (by kernel_rfl) (by omega) (by omega)) ?_
  rintro v1903 c1904 h1905 ⟨q1907, hS1906⟩
  replace hS1906 : St _ _ _ _ _ _ [.gs v1903 c1904 (csz Int), .gs v1895 [V (r1693.Tree.Nodes.length : Int)] (csz Int), .gs v1863 [V a2, V a3, V a4, V a1, .slice none 0 0, .bool false] (csz api_Node), .blk b1704 [v1869], .gs v1869 c1870 (csz api_Node), .blk b1690 [.slice none 0 0], .blk b1687 [v1192]] := hS1906
  obtain ⟨hc1909, hm⟩ := chk hm
  refine e_val rfl trivial (o_index rfl rfl (by kernel_rfl : slTy _ _ = some (csz api_Node)) (hS1906.gbased (j := 4) rfl q1873 (by omega)) hc1909.1 hc1909.2) ?_
  refine yq 1 [(103, .pointer (some (elemA v1869 a1 (csz api_Node) 4))), (101, v1903), (11, V (r1693.Tree.Nodes.length : Int)), (12, Pt b1704 0), (10, Pt b1690 0), (1, V a1), (4, V a4)] ?_
  obtain ⟨x1914, hx1915, hm⟩ := obind hm
  obtain ⟨Z1910, hZ1911, q1912, hS1913⟩ := (hS1906.front 0 rfl).freeze q1907
  replace hS1913 : St _ _ _ _ _ _ [.gs v1895 [V (r1693.Tree.Nodes.length : Int)] (csz Int), .gs v1863 [V a2, V a3, V a4, V a1, .slice none 0 0, .bool false] (csz api_Node), .blk b1704 [v1869], .gs v1869 c1870 (csz api_Node), .blk b1690 [.slice none 0 0], .blk b1687 [v1192]] := hS1913
  obtain ⟨cs1916, hc1917, he1918, ht1919⟩ := hS1913.gel (j := 3) rfl (q1873.mono hZ1911) (i := a1) hx1915
  obtain ⟨v1920, q1921, rfl⟩ := rc_api_Node hc1917
  have hF1926 : St _ _ _ _ _ _ ([.gs v1869 c1870 (csz api_Node)] ++ [.gs v1895 [V (r1693.Tree.Nodes.length : Int)] (csz Int), .gs v1863 [V a2, V a3, V a4, V a1, .slice none 0 0, .bool false] (csz api_Node), .blk b1704 [v1869], .blk b1690 [.slice none 0 0], .blk b1687 [v1192]]) := (hS1913.front 3 rfl)
  refine e_mk2 rfl trivial hF1926 (o_ste (u' := (⟨x1914.Kind, x1914.From, x1914.To, x1914.Up, ((x1878.Kids.take (x1878.Kids.length : Int).toNat).drop (0 : Int).toNat) ++ ([(r1693.Tree.Nodes.length : Int)] : List Int), x1914.Key⟩ : api_Node)) (vs := [v1903]) (cs' := [V x1914.Kind, V x1914.From, V x1914.To, V x1914.Up, v1903, .bool x1914.Key]) hF1926.sub (m := 0) rfl (q1873.mono hZ1911) hx1915 ht1919 rfl rfl (RS.cell1 q1912) (by kernel_rfl) (one_cons (RS.one1 q1912) one_nil) rfl rfl ⟨_, q1912, rfl⟩) hZ1911 (.keep (hF1926.neB 2 rfl blk_mem) .nil) ?_
  rintro h1922 c1923 ⟨q1925, hS1924⟩
  replace hS1924 : St _ _ _ _ _ _ [.gs v1869 c1923 (csz api_Node), .gs v1895 [V (r1693.Tree.Nodes.length : Int)] (csz Int), .gs v1863 [V a2, V a3, V a4, V a1, .slice none 0 0, .bool false] (csz api_Node), .blk b1704 [v1869], .blk b1690 [.slice none 0 0], .blk b1687 [v1192]] := hS1924
  refine yf [(11, V (r1693.Tree.Nodes.length : Int)), (12, Pt b1704 0), (10, Pt b1690 0), (1, V a1), (4, V a4)] ?_
  have hS1927 := hS1924.unres
  refine sr r14_8 ?_
  refine xq 3 [(106, V a4), (105, V a1), (104, Pt b1704 0), (11, V (r1693.Tree.Nodes.length : Int)), (12, Pt b1704 0), (10, Pt b1690 0)] ?_
  obtain ⟨r1928, hx1929, hm⟩ := obind hm
  have hF1935 : St _ _ _ _ _ _ ([.blk b1704 [v1869], .gs v1869 c1923 (csz api_Node)] ++ [.gs v1895 [V (r1693.Tree.Nodes.length : Int)] (csz Int), .gs v1863 [V a2, V a3, V a4, V a1, .slice none 0 0, .bool false] (csz api_Node), .blk b1690 [.slice none 0 0], .blk b1687 [v1192]]) := ((hS1927.front 0 rfl).front 3 rfl)
  obtain ⟨v1930, h1931, Z1936, A1938, hcl1932, hSc1933, c1940, rfl, rfl, q1939⟩ := arena_forest_grow_ok F hF1935.preL q1925 hx1929
  have hZ1937 := hSc1933.zle
  have hS1934 := hF1935.call hSc1933
  replace hS1934 : St _ _ _ _ _ _ [.blk b1704 [v1869], .gs v1869 c1940 (csz api_Node), .gs v1895 [V (r1693.Tree.Nodes.length : Int)] (csz Int), .gs v1863 [V a2, V a3, V a4, V a1, .slice none 0 0, .bool false] (csz api_Node), .blk b1690 [.slice none 0 0], .blk b1687 [v1192]] := hS1934
  refine r_step rfl trivial (o_call hcl1932 rfl rfl rfl) ?_
  refine xf [(11, V (r1693.Tree.Nodes.length : Int)), (12, Pt b1704 0), (10, Pt b1690 0)] ?_
  refine sr r14_9 ?_
  refine xq 3 [(110, Pt b1704 0), (11, V (r1693.Tree.Nodes.length : Int)), (10, Pt b1690 0)] ?_
  refine r_step rfl trivial (o_ldb (v := .agg #[v1869]) hS1934 (i := 0) rfl rfl (by kernel_rfl)) ?_
  refine xq 1 [(112, V (r1693.Tree.Nodes.length : Int)), (111, .agg #[v1869]), (11, V (r1693.Tree.Nodes.length : Int)), (10, Pt b1690 0)] ?_
  refine r_ex1 rfl trivial (o_stb (vs := [v1869]) (cells' := [v1869]) (L' := [.blk b1704 [v1869], .gs v1869 c1940 (csz api_Node), .gs v1895 [V (r1693.Tree.Nodes.length : Int)] (csz Int), .gs v1863 [V a2, V a3, V a4, V a1, .slice none 0 0, .bool false] (csz api_Node), .blk b1690 [v1869], .blk b1687 [v1192]]) hS1934 (i := 4) rfl rfl rfl rfl (by kernel_rfl) (one_cons (hS1934.gone1 (i := 1) rfl) one_nil) rfl rfl rfl) ?_
  intro h1941 hS1942
  refine xe 1 [(11, V (r1693.Tree.Nodes.length : Int)), (10, Pt b1690 0)] ?_
  refine rt ?_
  refine ⟨rfl, ?_⟩
  obtain rfl := Option.some.inj hm
  refine ⟨_, _, _, ResL.cell (v := .agg #[v1869]) rfl hS1942 (i := 4) rfl (by kernel_rfl) (ResL.tmp rfl (ResL.nil)), ((hS1942.front 1 rfl).takeN 1), ?_⟩
  exact ⟨v1869, c1940, rfl, rfl, q1939⟩
  refine r_setb (t := 18) rfl (Bool.eq_false_iff.2 hp1817) ?_
  refine xe 33 [(51, .bool true), (12, Pt b1704 0), (10, Pt b1690 0), (1, V a1), (2, V a2), (3, V a3), (4, V a4)] ?_
  refine cT 51 rfl ?_
  refine sr r14_3 ?_
  refine xq 3 [(54, Pt b1704 0), (10, Pt b1690 0)] ?_
  refine r_step rfl trivial (o_ldb (v := .agg #[v1706]) hS1812 (i := 0) rfl rfl (by kernel_rfl)) ?_
  refine r_ex1 rfl trivial (o_stb (vs := [v1706]) (cells' := [v1706]) (L' := [.blk b1704 [v1706], .gs v1706 c1707 (csz api_Node), .blk b1690 [v1706], .blk b1687 [v1192]]) hS1812 (i := 2) rfl rfl rfl rfl (by kernel_rfl) (one_cons (hS1812.gone1 (i := 1) rfl) one_nil) rfl rfl rfl) ?_
  intro h1945 hS1946
  refine xe 1 [(11, V (-1)), (10, Pt b1690 0)] ?_
  refine rt ?_
  refine ⟨rfl, ?_⟩
  obtain rfl := Option.some.inj hm
  refine ⟨_, _, _, ResL.cell (v := .agg #[v1706]) rfl hS1946 (i := 2) rfl (by kernel_rfl) (ResL.tmp rfl (ResL.nil)), ((hS1946.front 1 rfl).takeN 1), ?_⟩
  exact ⟨v1706, c1707, rfl, rfl, (q1705.mono hZ1815)⟩

def r37_0 : List COp := [u 4 (.assign (.const (.bool false)))]
def r37_1 : List COp := [u 6 (.move (t 0)), u 7 (cb .len #[(t 6)] #[44]), u 8 (.move (t 1)), u 9 (cb .len #[(t 8)] #[44]), u 10 (.binOp .neq 3 (t 7) (t 9) 3)]
def r37_2 : List COp := [u 4 (.assign (.const (.bool false)))]
def r37_3 : List COp := [u 11 (.move (t 0)), u 12 (cb .len #[(t 11)] #[44]), u 13 (.move (ci 0))]
def r37_4 : List COp := [u 14 (.binOp .lss 3 (t 13) (t 12) 3)]
def r37_5 : List COp := [u 15 (.move (t 13)), u 5 (.assign (t 15))]
def r37_6 : List COpF := [uF 16 (.move (t 0)) .pure [], uF 17 (.move (t 5)) .pure [], uF 18 (.indexAddr 44 (t 16) (t 17)) .pure [], uF 19 (.load 3 (t 18)) .look [], uF 20 (.move (t 1)) .pure [], uF 21 (.move (t 5)) .pure [], uF 22 (.indexAddr 44 (t 20) (t 21)) .pure [], uF 23 (.load 3 (t 22)) .look [], uF 24 (.binOp .neq 3 (t 19) (t 23) 3) .pure []]
def r37_7 : List COp := [u 4 (.assign (.const (.bool false)))]
def r37_8 : List COp := [u 25 (.binOp .add 3 (t 13) (ci 1) 3), u 13 (.move (t 25))]
def r37_9 : List COp := [u 4 (.assign (.const (.bool true)))]
def slices_Equal_int_l0 (F : Nat) (a0 : List Int) (a1 : List Int) : Nat → Int → Option (Sum Unit Bool)
  | 0, _ => none
  | n + 1, x2233 =>
    if x2233 < (a0.length : Int) then
      if 0 ≤ x2233 ∧ x2233 < (a0.length : Int) then
        (a0[x2233.toNat]?).bind fun x2265 =>
        if 0 ≤ x2233 ∧ x2233 < (a1.length : Int) then
          (a1[x2233.toNat]?).bind fun x2272 =>
          if x2265 = x2272 then
            slices_Equal_int_l0 F a0 a1 n (w64 (x2233 + 1))
          else
            some (.inr false)
        else none
      else none
    else
      some (.inl ())
def slices_Equal_int (F : Nat) (a0 : List Int) (a1 : List Int) : Option Bool :=
  if (a0.length : Int) = (a1.length : Int) then
    ((slices_Equal_int_l0 F a0 a1 F 0) : Option (Sum Unit Bool)).bind fun o => match o with
      | .inl () => some true
      | .inr y => some y
  else
    some false
theorem slices_Equal_int_ok (F : Nat) {h : AH} {Z : Zn} {a0 : List Int} {a1 : List Int} {v2028 : Value} {v2030 : Value} (hI : Inv Z h) (q2027 : RS (α := Int) Z v2028 a0) (q2029 : RS (α := Int) Z v2030 a1) {r : Bool} (hm : slices_Equal_int F a0 a1 = some r) :
    ∃ v h', callI Go.Proofs.Try.prog 37 [v2028, v2030] h = some (v, h') ∧ St h [] Z (0, 0) Z h' [] ∧ v = .bool r := by
  refine fn_plain (Q := fun v => v = .bool r) Go.Proofs.Try.func37 rfl rfl hI ?_
  intro hs hS
  unfold slices_Equal_int at hm
  refine sr r37_0 ?_
  refine xe 1 [(0, v2028), (1, v2030)] ?_
  refine sq ?_
  refine sr r37_1 ?_
  refine xq 1 [(6, v2028), (0, v2028), (1, v2030)] ?_
  refine r_step rfl trivial (o_len rfl (RS.len q2027) ⟨_, Go.Proofs.Try.underlying44⟩) ?_
  refine xq 1 [(8, v2030), (7, V (a0.length : Int)), (0, v2028), (1, v2030)] ?_
  refine r_step rfl trivial (o_len rfl (RS.len q2029) ⟨_, Go.Proofs.Try.underlying44⟩) ?_
  rcases ifs hm with ⟨hp2134, hm⟩ | ⟨hp2134, hm⟩
  refine r_step rfl trivial (o_cmp rfl rfl (c_neq_F hp2134)) ?_
  refine xf [(10, .bool false), (0, v2028), (1, v2030)] ?_
  refine kF 10 rfl ?_
  refine sq ?_
  refine sr r37_3 ?_
  refine xq 1 [(11, v2028), (0, v2028), (1, v2030)] ?_
  refine r_step rfl trivial (o_len rfl (RS.len q2027) ⟨_, Go.Proofs.Try.underlying44⟩) ?_
  refine xe 1 [(13, V 0), (12, V (a0.length : Int)), (0, v2028), (1, v2030)] ?_
  obtain ⟨o2231, ho2230, hm⟩ := obind hm
  refine W_join [] (fun l h => ∃ Z2281 : Zn, .inl () = o2231 ∧ l = [] ∧ St hs [] Z (0, 0) Z2281 h []) ?_ ?_
  rintro l h2282 ⟨Z2281, rfl, rfl, hS2283⟩
  try dsimp only at hm
  refine sr r37_9 ?_
  refine xe 1 [(4, .bool true)] ?_
  refine rt ?_
  refine ⟨rfl, ?_⟩
  obtain rfl := Option.some.inj hm
  refine ⟨_, _, _, ResL.tmp rfl (ResL.nil), hS2283, ?_⟩
  exact rfl
  refine bk 0 ?_
  refine lp [0, 1, 12, 13] (fun n l h => ∃ Z2232 : Zn, ∃ x2233 : Int, slices_Equal_int_l0 F a0 a1 n x2233 = some o2231 ∧ l = [(0, v2028), (1, v2030), (12, V (a0.length : Int)), (13, V x2233)] ∧ St hs [] Z (0, 0) Z2232 h []) F ⟨_, 0, ho2230, rfl, hS⟩ ?_
  rintro n2236 l h2234 ⟨Z2232, x2233, ho2230, rfl, hS2235⟩
  rcases n2236 with _ | n2236
  cases (show none = some o2231 from ho2230)
  rw [slices_Equal_int_l0] at ho2230
  refine sr r37_4 ?_
  rcases ifs ho2230 with ⟨hp2238, ho2230⟩ | ⟨hp2238, ho2230⟩
  refine r_step rfl trivial (o_cmp rfl rfl (c_lss_T hp2238)) ?_
  refine xf [(14, .bool true), (0, v2028), (1, v2030), (12, V (a0.length : Int)), (13, V x2233)] ?_
  refine sq ?_
  refine kT 14 rfl ?_
  refine sq ?_
  refine bk 1 ?_
  refine sr r37_5 ?_
  refine xe 2 [(5, V x2233), (0, v2028), (1, v2030), (12, V (a0.length : Int)), (13, V x2233)] ?_
  refine srF r37_6 hS2235 ?_
  intro bs2260 h2261 hlv2263 hS2262
  refine yq 2 [(17, V x2233), (16, v2028), (5, V x2233), (0, v2028), (1, v2030), (12, V (a0.length : Int)), (13, V x2233)] ?_
  obtain ⟨hc2264, ho2230⟩ := chk ho2230
  refine e_val rfl trivial (o_index rfl rfl (by kernel_rfl : slTy _ _ = some (csz Int)) (RS.based (q2027.mono hS2235.zle) (by omega)) hc2264.1 hc2264.2) ?_
  obtain ⟨x2265, hx2266, ho2230⟩ := obind ho2230
  obtain ⟨cs2267, hc2268, he2269⟩ := RS.elz (q2027.mono hS2235.zle) (i := x2233) hx2266
  obtain rfl := rc_Int hc2268
  refine e_lookZ rfl rfl trivial (fun h2 hz => o_lde (w := V x2265) (he2269 h2 hz) rfl (by kernel_rfl)) (hS2262.zin0 (Zle.refl _)) (same1 (v := V x2265) trivial) trivial ?_
  refine yq 2 [(21, V x2233), (20, v2030), (19, V x2265), (0, v2028), (1, v2030), (12, V (a0.length : Int)), (13, V x2233)] ?_
  obtain ⟨hc2271, ho2230⟩ := chk ho2230
  refine e_val rfl trivial (o_index rfl rfl (by kernel_rfl : slTy _ _ = some (csz Int)) (RS.based (q2029.mono hS2235.zle) (by omega)) hc2271.1 hc2271.2) ?_
  obtain ⟨x2272, hx2273, ho2230⟩ := obind ho2230
  obtain ⟨cs2274, hc2275, he2276⟩ := RS.elz (q2029.mono hS2235.zle) (i := x2233) hx2273
  obtain rfl := rc_Int hc2275
  refine e_lookZ rfl rfl trivial (fun h2 hz => o_lde (w := V x2272) (he2276 h2 hz) rfl (by kernel_rfl)) (hS2262.zin0 (Zle.refl _)) (same1 (v := V x2272) trivial) trivial ?_
  rcases ifs ho2230 with ⟨hp2278, ho2230⟩ | ⟨hp2278, ho2230⟩
  refine e_val rfl trivial (o_cmp rfl rfl (c_neq_F hp2278)) ?_
  refine yf [(24, .bool false), (0, v2028), (1, v2030), (12, V (a0.length : Int)), (13, V x2233)] ?_
  have hS2279 := hS2262.unres
  refine kF 24 rfl ?_
  refine rg r37_8 ?_
  refine xe 2 [(13, V (w64 (x2233 + 1))), (0, v2028), (1, v2030), (12, V (a0.length : Int))] ?_
  exact ⟨n2236, Nat.lt_succ_self _, ⟨_, w64 (x2233 + 1), ho2230, rfl, hS2279⟩⟩
  refine e_val rfl trivial (o_cmp rfl rfl (c_neq_T hp2278)) ?_
  refine yf [(24, .bool true), (0, v2028), (1, v2030), (12, V (a0.length : Int)), (13, V x2233)] ?_
  have hS2280 := hS2262.unres
  refine cT 24 rfl ?_
  refine sr r37_7 ?_
  refine xe 1 [(4, .bool false)] ?_
  refine rt ?_
  refine blkX_ret ?_
  refine blkX_ret ?_
  refine ⟨rfl, ?_⟩
  obtain rfl := Option.some.inj ho2230
  obtain rfl := Option.some.inj hm
  refine ⟨_, _, _, ResL.tmp rfl (ResL.nil), hS2280, ?_⟩
  exact rfl
  refine r_step rfl trivial (o_cmp rfl rfl (c_lss_F hp2238)) ?_
  refine xf [(14, .bool false), (0, v2028), (1, v2030), (12, V (a0.length : Int)), (13, V x2233)] ?_
  refine sq ?_
  refine cF 14 rfl ?_
  refine xt 0 ?_
  refine blkX_hit ?_
  obtain rfl := Option.some.inj ho2230
  exact ⟨_, rfl, rfl, hS2235⟩
  refine r_step rfl trivial (o_cmp rfl rfl (c_neq_T hp2134)) ?_
  refine xf [(10, .bool true), (0, v2028), (1, v2030)] ?_
  refine cT 10 rfl ?_
  refine sr r37_2 ?_
  refine xe 1 [(4, .bool false)] ?_
  refine rt ?_
  refine ⟨rfl, ?_⟩
  obtain rfl := Option.some.inj hm
  refine ⟨_, _, _, ResL.tmp rfl (ResL.nil), hS, ?_⟩
  exact rfl

def r31_0 : List COp := [u 4 (.assign (.const (.bool false)))]
def r31_1 : List COp := [u 10 (.move (t 0)), u 11 (.typeAssert (t 10) 20 46 true), u 9 (.move (t 11)), u 12 (.extract (t 9) 0), u 13 (.extract (t 9) 1), u 5 (.alloc 46), o (.store 46 (t 5) (t 12)), u 6 (.assign (t 13))]
def r31_2 : List COp := [u 15 (.move (t 1)), u 16 (.typeAssert (t 15) 20 46 true), u 14 (.move (t 16)), u 17 (.extract (t 14) 0), u 18 (.extract (t 14) 1), u 7 (.alloc 46), o (.store 46 (t 7) (t 17)), u 8 (.assign (t 18))]
def r31_3 : List COp := [u 19 (.move (t 6)), u 20 (.move (t 19)), gT 20 (some 21) (.move (t 8)), u 22 (.pick (t 20) (t 21) (.const (.bool false))), u 23 (.move (t 22)), gT 23 (some 24) (.fieldAddr 46 (t 5) 0), gT 23 (some 25) (.load 3 (t 24)), gT 23 (some 26) (.fieldAddr 46 (t 7) 0), gT 23 (some 27) (.load 3 (t 26)), gT 23 (some 28) (.binOp .eql 3 (t 25) (t 27) 3), u 29 (.pick (t 23) (t 28) (.const (.bool false))), u 30 (.move (t 29)), gT 30 (some 31) (.fieldAddr 46 (t 5) 1), gT 30 (some 32) (.load 3 (t 31)), gT 30 (some 33) (.fieldAddr 46 (t 7) 1), gT 30 (some 34) (.load 3 (t 33)), gT 30 (some 35) (.binOp .eql 3 (t 32) (t 34) 3), u 36 (.pick (t 30) (t 35) (.const (.bool false))), u 37 (.move (t 36)), gT 37 (some 38) (.fieldAddr 46 (t 5) 2), gT 37 (some 39) (.load 3 (t 38)), gT 37 (some 40) (.fieldAddr 46 (t 7) 2), gT 37 (some 41) (.load 3 (t 40)), gT 37 (some 42) (.binOp .eql 3 (t 39) (t 41) 3), u 43 (.pick (t 37) (t 42) (.const (.bool false))), u 44 (.move (t 43)), gT 44 (some 45) (.fieldAddr 46 (t 5) 3), gT 44 (some 46) (.load 3 (t 45)), gT 44 (some 47) (.fieldAddr 46 (t 7) 3), gT 44 (some 48) (.load 3 (t 47)), gT 44 (some 49) (.binOp .eql 3 (t 46) (t 48) 3), u 50 (.pick (t 44) (t 49) (.const (.bool false))), u 51 (.move (t 50)), gT 51 (some 52) (.fieldAddr 46 (t 5) 5), gT 51 (some 53) (.load 4 (t 52)), gT 51 (some 54) (.fieldAddr 46 (t 7) 5), gT 51 (some 55) (.load 4 (t 54)), gT 51 (some 56) (.binOp .eql 4 (t 53) (t 55) 4), u 57 (.pick (t 51) (t 56) (.const (.bool false))), u 58 (.move (t 57)), gT 58 (some 59) (.fieldAddr 46 (t 5) 4), gT 58 (some 60) (.load 44 (t 59)), gT 58 (some 61) (.fieldAddr 46 (t 7) 4), gT 58 (some 62) (.load 44 (t 61)), gT 58 (some 63) (cf 37 #[(t 60), (t 62)] #[44, 44]), u 64 (.pick (t 58) (t 63) (.const (.bool false))), u 4 (.assign (t 64))]
def arena_alike (F : Nat) (a0 : api_Node) (a1 : api_Node) : Option Bool :=
  if a0.Kind = a1.Kind then
    if a0.From = a1.From then
      if a0.To = a1.To then
        if a0.Up = a1.Up then
          if a0.Key = true then
            if a1.Key = true then
              (slices_Equal_int F a0.Kids a1.Kids).bind fun r2315 =>
              some r2315
            else
              some false
          else
            if a1.Key = true then
              some false
            else
              (slices_Equal_int F a0.Kids a1.Kids).bind fun r2323 =>
              some r2323
        else
          some false
      else
        some false
    else
      some false
  else
    some false
theorem arena_alike_ok (F : Nat) {h : AH} {Z : Zn} {a0 : api_Node} {a1 : api_Node} {v2008 : Value} {v2010 : Value} (hI : Inv Z h) (q2007 : RS (α := Int) Z v2008 a0.Kids) (q2009 : RS (α := Int) Z v2010 a1.Kids) {r : Bool} (hm : arena_alike F a0 a1 = some r) :
    ∃ v h', callI Go.Proofs.Try.prog 31 [.iface 46 (.agg #[V a0.Kind, V a0.From, V a0.To, V a0.Up, v2008, .bool a0.Key]), .iface 46 (.agg #[V a1.Kind, V a1.From, V a1.To, V a1.Up, v2010, .bool a1.Key])] h = some (v, h') ∧ St h [] Z (0, 0) Z h' [] ∧ v = .bool r := by
  refine fn_plain (Q := fun v => v = .bool r) Go.Proofs.Try.func31 rfl rfl hI ?_
  intro hs hS
  unfold arena_alike at hm
  refine sr r31_0 ?_
  refine xe 1 [(0, .iface 46 (.agg #[V a0.Kind, V a0.From, V a0.To, V a0.Up, v2008, .bool a0.Key])), (1, .iface 46 (.agg #[V a1.Kind, V a1.From, V a1.To, V a1.Up, v2010, .bool a1.Key]))] ?_
  refine sr r31_1 ?_
  refine xq 5 [(13, .bool true), (12, .agg #[V a0.Kind, V a0.From, V a0.To, V a0.Up, v2008, .bool a0.Key]), (1, .iface 46 (.agg #[V a1.Kind, V a1.From, V a1.To, V a1.Up, v2010, .bool a1.Key]))] ?_
  refine r_blk rfl trivial (o_alloc (cs := [V 0, V 0, V 0, V 0, .slice none 0 0, .bool false]) (by kernel_rfl)) hS ?_
  intro b2299 h2300 hS2301
  refine r_ex1 rfl trivial (o_stb (vs := [V a0.Kind, V a0.From, V a0.To, V a0.Up, v2008, .bool a0.Key]) (cells' := (K46 v2008 a0)) (L' := [.blk b2299 (K46 v2008 a0)]) hS2301 (i := 0) rfl rfl rfl rfl (by kernel_rfl) (one_cons rfl (one_cons rfl (one_cons rfl (one_cons rfl (one_cons (RS.one1 q2007) (one_cons rfl one_nil)))))) rfl rfl rfl) ?_
  intro h2302 hS2303
  refine xe 1 [(6, .bool true), (5, Pt b2299 0), (1, .iface 46 (.agg #[V a1.Kind, V a1.From, V a1.To, V a1.Up, v2010, .bool a1.Key]))] ?_
  refine sr r31_2 ?_
  refine xq 5 [(18, .bool true), (17, .agg #[V a1.Kind, V a1.From, V a1.To, V a1.Up, v2010, .bool a1.Key]), (6, .bool true), (5, Pt b2299 0)] ?_
  refine r_blk rfl trivial (o_alloc (cs := [V 0, V 0, V 0, V 0, .slice none 0 0, .bool false]) (by kernel_rfl)) hS2303 ?_
  intro b2304 h2305 hS2306
  refine r_ex1 rfl trivial (o_stb (vs := [V a1.Kind, V a1.From, V a1.To, V a1.Up, v2010, .bool a1.Key]) (cells' := (K46 v2010 a1)) (L' := [.blk b2304 (K46 v2010 a1), .blk b2299 (K46 v2008 a0)]) hS2306 (i := 0) rfl rfl rfl rfl (by kernel_rfl) (one_cons rfl (one_cons rfl (one_cons rfl (one_cons rfl (one_cons (RS.one1 q2009) (one_cons rfl one_nil)))))) rfl rfl rfl) ?_
  intro h2307 hS2308
  refine xe 1 [(8, .bool true), (7, Pt b2304 0), (6, .bool true), (5, Pt b2299 0)] ?_
  refine sr r31_3 ?_
  refine xq 6 [(24, Pt b2299 0), (23, .bool true), (7, Pt b2304 0), (5, Pt b2299 0)] ?_
  refine r_step rfl rfl (o_ldb (v := V a0.Kind) hS2308 (i := 1) rfl rfl (by kernel_rfl)) ?_
  refine xq 1 [(26, Pt b2304 0), (25, V a0.Kind), (23, .bool true), (7, Pt b2304 0), (5, Pt b2299 0)] ?_
  refine r_step rfl rfl (o_ldb (v := V a1.Kind) hS2308 (i := 0) rfl rfl (by kernel_rfl)) ?_
  rcases ifs hm with ⟨hp2309, hm⟩ | ⟨hp2309, hm⟩
  refine r_step rfl rfl (o_cmp rfl rfl (c_eql_T hp2309)) ?_
  refine xq 3 [(31, Pt b2299 1), (30, .bool true), (7, Pt b2304 0), (5, Pt b2299 0)] ?_
  refine r_step rfl rfl (o_ldb (v := V a0.From) hS2308 (i := 1) rfl rfl (by kernel_rfl)) ?_
  refine xq 1 [(33, Pt b2304 1), (32, V a0.From), (30, .bool true), (7, Pt b2304 0), (5, Pt b2299 0)] ?_
  refine r_step rfl rfl (o_ldb (v := V a1.From) hS2308 (i := 0) rfl rfl (by kernel_rfl)) ?_
  rcases ifs hm with ⟨hp2310, hm⟩ | ⟨hp2310, hm⟩
  refine r_step rfl rfl (o_cmp rfl rfl (c_eql_T hp2310)) ?_
  refine xq 3 [(38, Pt b2299 2), (37, .bool true), (7, Pt b2304 0), (5, Pt b2299 0)] ?_
  refine r_step rfl rfl (o_ldb (v := V a0.To) hS2308 (i := 1) rfl rfl (by kernel_rfl)) ?_
  refine xq 1 [(40, Pt b2304 2), (39, V a0.To), (37, .bool true), (7, Pt b2304 0), (5, Pt b2299 0)] ?_
  refine r_step rfl rfl (o_ldb (v := V a1.To) hS2308 (i := 0) rfl rfl (by kernel_rfl)) ?_
  rcases ifs hm with ⟨hp2311, hm⟩ | ⟨hp2311, hm⟩
  refine r_step rfl rfl (o_cmp rfl rfl (c_eql_T hp2311)) ?_
  refine xq 3 [(45, Pt b2299 3), (44, .bool true), (7, Pt b2304 0), (5, Pt b2299 0)] ?_
  refine r_step rfl rfl (o_ldb (v := V a0.Up) hS2308 (i := 1) rfl rfl (by kernel_rfl)) ?_
  refine xq 1 [(47, Pt b2304 3), (46, V a0.Up), (44, .bool true), (7, Pt b2304 0), (5, Pt b2299 0)] ?_
  refine r_step rfl rfl (o_ldb (v := V a1.Up) hS2308 (i := 0) rfl rfl (by kernel_rfl)) ?_
  rcases ifs hm with ⟨hp2312, hm⟩ | ⟨hp2312, hm⟩
  refine r_step rfl rfl (o_cmp rfl rfl (c_eql_T hp2312)) ?_
  refine xq 3 [(52, Pt b2299 5), (51, .bool true), (7, Pt b2304 0), (5, Pt b2299 0)] ?_
  refine r_step rfl rfl (o_ldb (v := .bool a0.Key) hS2308 (i := 1) rfl rfl (by kernel_rfl)) ?_
  refine xq 1 [(54, Pt b2304 5), (53, .bool a0.Key), (51, .bool true), (7, Pt b2304 0), (5, Pt b2299 0)] ?_
  refine r_step rfl rfl (o_ldb (v := .bool a1.Key) hS2308 (i := 0) rfl rfl (by kernel_rfl)) ?_
  rcases ifs hm with ⟨hp2313, hm⟩ | ⟨hp2313, hm⟩
  refine r_setb (t := 53) rfl hp2313 ?_
  rcases ifs hm with ⟨hp2314, hm⟩ | ⟨hp2314, hm⟩
  refine r_setb (t := 55) rfl hp2314 ?_
  refine r_step rfl rfl (o_cmp (w := true) rfl rfl (by kernel_rfl)) ?_
  refine xq 3 [(59, Pt b2299 4), (58, .bool true), (7, Pt b2304 0)] ?_
  refine r_step rfl rfl (o_ldb (v := v2008) hS2308 (i := 1) rfl rfl (by kernel_rfl)) ?_
  refine xq 1 [(61, Pt b2304 4), (60, v2008), (58, .bool true)] ?_
  refine r_step rfl rfl (o_ldb (v := v2010) hS2308 (i := 0) rfl rfl (by kernel_rfl)) ?_
  obtain ⟨r2315, hx2316, hm⟩ := obind hm
  obtain ⟨v2317, h2318, hcl2319, hSc2320, rfl⟩ := slices_Equal_int_ok F hS2308.inv q2007 q2009 hx2316
  have hS2321 := St.call (A := []) (B := [.blk b2304 (K46 v2010 a1), .blk b2299 (K46 v2008 a0)]) hS2308 hSc2320
  replace hS2321 : St _ _ _ _ _ _ [.blk b2304 (K46 v2010 a1), .blk b2299 (K46 v2008 a0)] := hS2321
  refine r_step rfl rfl (o_call hcl2319 rfl rfl rfl) ?_
  refine xe 2 [(4, .bool r2315)] ?_
  refine rt ?_
  refine ⟨rfl, ?_⟩
  obtain rfl := Option.some.inj hm
  refine ⟨_, _, _, ResL.tmp rfl (ResL.nil), hS2321, ?_⟩
  exact rfl
  refine r_setb (t := 55) rfl (Bool.eq_false_iff.2 hp2314) ?_
  refine r_step rfl rfl (o_cmp (w := false) rfl rfl (by kernel_rfl)) ?_
  refine xe 9 [(4, .bool false)] ?_
  refine rt ?_
  refine ⟨rfl, ?_⟩
  obtain rfl := Option.some.inj hm
  refine ⟨_, _, _, ResL.tmp rfl (ResL.nil), hS2308, ?_⟩
  exact rfl
  refine r_setb (t := 53) rfl (Bool.eq_false_iff.2 hp2313) ?_
  rcases ifs hm with ⟨hp2322, hm⟩ | ⟨hp2322, hm⟩
  refine r_setb (t := 55) rfl hp2322 ?_
  refine r_step rfl rfl (o_cmp (w := false) rfl rfl (by kernel_rfl)) ?_
  refine xe 9 [(4, .bool false)] ?_
  refine rt ?_
  refine ⟨rfl, ?_⟩
  obtain rfl := Option.some.inj hm
  refine ⟨_, _, _, ResL.tmp rfl (ResL.nil), hS2308, ?_⟩
  exact rfl
  refine r_setb (t := 55) rfl (Bool.eq_false_iff.2 hp2322) ?_
  refine r_step rfl rfl (o_cmp (w := true) rfl rfl (by kernel_rfl)) ?_
  refine xq 3 [(59, Pt b2299 4), (58, .bool true), (7, Pt b2304 0)] ?_
  refine r_step rfl rfl (o_ldb (v := v2008) hS2308 (i := 1) rfl rfl (by kernel_rfl)) ?_
  refine xq 1 [(61, Pt b2304 4), (60, v2008), (58, .bool true)] ?_
  refine r_step rfl rfl (o_ldb (v := v2010) hS2308 (i := 0) rfl rfl (by kernel_rfl)) ?_
  obtain ⟨r2323, hx2324, hm⟩ := obind hm
  obtain ⟨v2325, h2326, hcl2327, hSc2328, rfl⟩ := slices_Equal_int_ok F hS2308.inv q2007 q2009 hx2324
  have hS2329 := St.call (A := []) (B := [.blk b2304 (K46 v2010 a1), .blk b2299 (K46 v2008 a0)]) hS2308 hSc2328
  replace hS2329 : St _ _ _ _ _ _ [.blk b2304 (K46 v2010 a1), .blk b2299 (K46 v2008 a0)] := hS2329
  refine r_step rfl rfl (o_call hcl2327 rfl rfl rfl) ?_
  refine xe 2 [(4, .bool r2323)] ?_
  refine rt ?_
  refine ⟨rfl, ?_⟩
  obtain rfl := Option.some.inj hm
  refine ⟨_, _, _, ResL.tmp rfl (ResL.nil), hS2329, ?_⟩
  exact rfl
  refine r_step rfl rfl (o_cmp rfl rfl (c_eql_F hp2312)) ?_
  refine xe 16 [(4, .bool false)] ?_
  refine rt ?_
  refine ⟨rfl, ?_⟩
  obtain rfl := Option.some.inj hm
  refine ⟨_, _, _, ResL.tmp rfl (ResL.nil), hS2308, ?_⟩
  exact rfl
  refine r_step rfl rfl (o_cmp rfl rfl (c_eql_F hp2311)) ?_
  refine xe 23 [(4, .bool false)] ?_
  refine rt ?_
  refine ⟨rfl, ?_⟩
  obtain rfl := Option.some.inj hm
  refine ⟨_, _, _, ResL.tmp rfl (ResL.nil), hS2308, ?_⟩
  exact rfl
  refine r_step rfl rfl (o_cmp rfl rfl (c_eql_F hp2310)) ?_
  refine xe 30 [(4, .bool false)] ?_
  refine rt ?_
  refine ⟨rfl, ?_⟩
  obtain rfl := Option.some.inj hm
  refine ⟨_, _, _, ResL.tmp rfl (ResL.nil), hS2308, ?_⟩
  exact rfl
  refine r_step rfl rfl (o_cmp rfl rfl (c_eql_F hp2309)) ?_
  refine xe 37 [(4, .bool false)] ?_
  refine rt ?_
  refine ⟨rfl, ?_⟩
  obtain rfl := Option.some.inj hm
  refine ⟨_, _, _, ResL.tmp rfl (ResL.nil), hS2308, ?_⟩
  exact rfl

def r30_0 : List COp := [u 2 (.box 46 (t 0)), u 3 (.box 46 (t 1)), u 4 (.assign (.const (.bool false)))]
def r30_1 : List COp := [u 5 (.load 46 (t 2)), u 6 (.makeInterface 46 (t 5)), u 7 (.load 46 (t 3)), u 8 (.makeInterface 46 (t 7)), u 9 (cf 31 #[(t 6), (t 8)] #[20, 20]), u 4 (.assign (t 9))]
def arena_Same_1 (F : Nat) (a0 : api_Node) (a1 : api_Node) : Option Bool :=
  (arena_alike F a0 a1).bind fun r2343 =>
  some r2343
theorem arena_Same_1_ok (F : Nat) {h : AH} {Z : Zn} {a0 : api_Node} {a1 : api_Node} {v1998 : Value} {v2000 : Value} (hI : Inv Z h) (q1997 : RS (α := Int) Z v1998 a0.Kids) (q1999 : RS (α := Int) Z v2000 a1.Kids) {r : Bool} (hm : arena_Same_1 F a0 a1 = some r) :
    ∃ v h', callI Go.Proofs.Try.prog 30 [.agg #[V a0.Kind, V a0.From, V a0.To, V a0.Up, v1998, .bool a0.Key], .agg #[V a1.Kind, V a1.From, V a1.To, V a1.Up, v2000, .bool a1.Key]] h = some (v, h') ∧ St h [] Z (0, 0) Z h' [] ∧ v = .bool r := by
  refine fn_plain (Q := fun v => v = .bool r) Go.Proofs.Try.func30 rfl rfl hI ?_
  intro hs hS
  unfold arena_Same_1 at hm
  refine sr r30_0 ?_
  refine r_blk rfl trivial (o_box (cs := [V a0.Kind, V a0.From, V a0.To, V a0.Up, v1998, .bool a0.Key]) rfl rfl) hS ?_
  intro b2337 h2338 hS2339
  refine r_blk rfl trivial (o_box (cs := [V a1.Kind, V a1.From, V a1.To, V a1.Up, v2000, .bool a1.Key]) rfl rfl) hS2339 ?_
  intro b2340 h2341 hS2342
  refine xe 1 [(3, Pt b2340 0), (2, Pt b2337 0)] ?_
  refine sr r30_1 ?_
  refine r_step rfl trivial (o_ldb (v := .agg #[V a0.Kind, V a0.From, V a0.To, V a0.Up, v1998, .bool a0.Key]) hS2342 (i := 1) rfl rfl (by kernel_rfl)) ?_
  refine xq 1 [(6, .iface 46 (.agg #[V a0.Kind, V a0.From, V a0.To, V a0.Up, v1998, .bool a0.Key])), (3, Pt b2340 0)] ?_
  refine r_step rfl trivial (o_ldb (v := .agg #[V a1.Kind, V a1.From, V a1.To, V a1.Up, v2000, .bool a1.Key]) hS2342 (i := 0) rfl rfl (by kernel_rfl)) ?_
  refine xq 1 [(8, .iface 46 (.agg #[V a1.Kind, V a1.From, V a1.To, V a1.Up, v2000, .bool a1.Key])), (6, .iface 46 (.agg #[V a0.Kind, V a0.From, V a0.To, V a0.Up, v1998, .bool a0.Key]))] ?_
  obtain ⟨r2343, hx2344, hm⟩ := obind hm
  obtain ⟨v2345, h2346, hcl2347, hSc2348, rfl⟩ := arena_alike_ok F hS2342.inv q1997 q1999 hx2344
  have hS2349 := St.call (A := []) (B := [.blk b2340 (K46 v2000 a1), .blk b2337 (K46 v1998 a0)]) hS2342 hSc2348
  replace hS2349 : St _ _ _ _ _ _ [.blk b2340 (K46 v2000 a1), .blk b2337 (K46 v1998 a0)] := hS2349
  refine r_step rfl trivial (o_call hcl2347 rfl rfl rfl) ?_
  refine xe 1 [(4, .bool r2343)] ?_
  refine rt ?_
  refine ⟨rfl, ?_⟩
  obtain rfl := Option.some.inj hm
  refine ⟨_, _, _, ResL.tmp rfl (ResL.nil), hS2349, ?_⟩
  exact rfl

def r29_0 : List COp := [u 6 (.assign (.const (.bool false)))]
def r29_1 : List COp := [u 10 (.move (t 0)), u 11 (cb .len #[(t 10)] #[25]), u 12 (.move (t 1)), u 13 (cb .len #[(t 12)] #[25]), u 14 (.binOp .neq 3 (t 11) (t 13) 3)]
def r29_2 : List COp := [u 6 (.assign (.const (.bool false)))]
def r29_3 : List COp := [u 15 (.move (t 0)), u 16 (cb .len #[(t 15)] #[25]), u 17 (.move (ci 0))]
def r29_4 : List COp := [u 18 (.binOp .lss 3 (t 17) (t 16) 3)]
def r29_5 : List COp := [u 19 (.move (t 17)), u 20 (.indexAddr 25 (t 15) (t 17)), u 21 (.load 46 (t 20)), u 8 (.alloc 46), u 7 (.assign (t 19)), o (.store 46 (t 8) (t 21))]
def r29_6 : List COp := [u 22 (.move (t 1)), u 23 (.move (t 7)), u 24 (.indexAddr 25 (t 22) (t 23)), u 25 (.load 46 (t 24)), u 9 (.alloc 46), o (.store 46 (t 9) (t 25))]
def r29_7 : List COp := [u 26 (.move (t 2)), u 27 (.load 46 (t 8)), u 28 (.load 46 (t 9)), u 29 (.call { callee := (.value (t 26)), args := #[(t 27), (t 28)], argTypes := #[46, 46] }), u 30 (.unOp .not 4 (t 29))]
def r29_8 : List COp := [u 6 (.assign (.const (.bool false)))]
def r29_9 : List COp := [u 31 (.binOp .add 3 (t 17) (ci 1) 3), u 17 (.move (t 31))]
def r29_10 : List COp := [u 6 (.assign (.const (.bool true)))]
def slices_EqualFunc_api_Node_l0 (F : Nat) (a0 : List api_Node) (a1 : List api_Node) : Nat → Int → Option (Sum Unit Bool)
  | 0, _ => none
  | n + 1, x2524 =>
    if x2524 < (a0.length : Int) then
      if 0 ≤ x2524 ∧ x2524 < (a0.length : Int) then
        (a0[x2524.toNat]?).bind fun x2531 =>
        if 0 ≤ x2524 ∧ x2524 < (a1.length : Int) then
          (a1[x2524.toNat]?).bind fun x2545 =>
          (arena_Same_1 F x2531 x2545).bind fun r2566 =>
          if r2566 = true then
            slices_EqualFunc_api_Node_l0 F a0 a1 n (w64 (x2524 + 1))
          else
            some (.inr false)
        else none
      else none
    else
      some (.inl ())
def slices_EqualFunc_api_Node (F : Nat) (a0 : List api_Node) (a1 : List api_Node) : Option Bool :=
  if (a0.length : Int) = (a1.length : Int) then
    ((slices_EqualFunc_api_Node_l0 F a0 a1 F 0) : Option (Sum Unit Bool)).bind fun o => match o with
      | .inl () => some true
      | .inr y => some y
  else
    some false
theorem slices_EqualFunc_api_Node_ok (F : Nat) {h : AH} {Z : Zn} {a0 : List api_Node} {a1 : List api_Node} {v1958 : Value} {v1960 : Value} (hI : Inv Z h) (q1957 : RS (α := api_Node) Z v1958 a0) (q1959 : RS (α := api_Node) Z v1960 a1) {r : Bool} (hm : slices_EqualFunc_api_Node F a0 a1 = some r) :
    ∃ v h', callI Go.Proofs.Try.prog 29 [v1958, v1960, .func (.func 30) #[] #[]] h = some (v, h') ∧ St h [] Z (0, 0) Z h' [] ∧ v = .bool r := by
  refine fn_plain (Q := fun v => v = .bool r) Go.Proofs.Try.func29 rfl rfl hI ?_
  intro hs hS
  unfold slices_EqualFunc_api_Node at hm
  refine sr r29_0 ?_
  refine xe 1 [(0, v1958), (1, v1960), (2, .func (.func 30) #[] #[])] ?_
  refine sq ?_
  refine sr r29_1 ?_
  refine xq 1 [(10, v1958), (0, v1958), (1, v1960), (2, .func (.func 30) #[] #[])] ?_
  refine r_step rfl trivial (o_len rfl (RS.len q1957) ⟨_, Go.Proofs.Try.underlying25⟩) ?_
  refine xq 1 [(12, v1960), (11, V (a0.length : Int)), (0, v1958), (1, v1960), (2, .func (.func 30) #[] #[])] ?_
  refine r_step rfl trivial (o_len rfl (RS.len q1959) ⟨_, Go.Proofs.Try.underlying25⟩) ?_
  rcases ifs hm with ⟨hp2421, hm⟩ | ⟨hp2421, hm⟩
  refine r_step rfl trivial (o_cmp rfl rfl (c_neq_F hp2421)) ?_
  refine xf [(14, .bool false), (0, v1958), (1, v1960), (2, .func (.func 30) #[] #[])] ?_
  refine kF 14 rfl ?_
  refine sq ?_
  refine sr r29_3 ?_
  refine xq 1 [(15, v1958), (1, v1960), (2, .func (.func 30) #[] #[])] ?_
  refine r_step rfl trivial (o_len rfl (RS.len q1957) ⟨_, Go.Proofs.Try.underlying25⟩) ?_
  refine xe 1 [(17, V 0), (16, V (a0.length : Int)), (15, v1958), (1, v1960), (2, .func (.func 30) #[] #[])] ?_
  obtain ⟨o2522, ho2521, hm⟩ := obind hm
  refine W_join [] (fun l h => ∃ Z2574 : Zn, .inl () = o2522 ∧ l = [] ∧ St hs [] Z (0, 0) Z2574 h []) ?_ ?_
  rintro l h2575 ⟨Z2574, rfl, rfl, hS2576⟩
  try dsimp only at hm
  refine sr r29_10 ?_
  refine xe 1 [(6, .bool true)] ?_
  refine rt ?_
  refine ⟨rfl, ?_⟩
  obtain rfl := Option.some.inj hm
  refine ⟨_, _, _, ResL.tmp rfl (ResL.nil), hS2576, ?_⟩
  exact rfl
  refine bk 0 ?_
  refine lp [1, 2, 15, 16, 17] (fun n l h => ∃ Z2523 : Zn, ∃ x2524 : Int, slices_EqualFunc_api_Node_l0 F a0 a1 n x2524 = some o2522 ∧ l = [(1, v1960), (2, .func (.func 30) #[] #[]), (15, v1958), (16, V (a0.length : Int)), (17, V x2524)] ∧ St hs [] Z (0, 0) Z2523 h []) F ⟨_, 0, ho2521, rfl, hS⟩ ?_
  rintro n2527 l h2525 ⟨Z2523, x2524, ho2521, rfl, hS2526⟩
  rcases n2527 with _ | n2527
  cases (show none = some o2522 from ho2521)
  rw [slices_EqualFunc_api_Node_l0] at ho2521
  refine sr r29_4 ?_
  rcases ifs ho2521 with ⟨hp2529, ho2521⟩ | ⟨hp2529, ho2521⟩
  refine r_step rfl trivial (o_cmp rfl rfl (c_lss_T hp2529)) ?_
  refine xf [(18, .bool true), (1, v1960), (2, .func (.func 30) #[] #[]), (15, v1958), (16, V (a0.length : Int)), (17, V x2524)] ?_
  refine sq ?_
  refine kT 18 rfl ?_
  refine sq ?_
  refine bk 1 ?_
  refine sr r29_5 ?_
  refine xq 1 [(19, V x2524), (1, v1960), (2, .func (.func 30) #[] #[]), (15, v1958), (16, V (a0.length : Int)), (17, V x2524)] ?_
  obtain ⟨hc2530, ho2521⟩ := chk ho2521
  refine r_step rfl trivial (o_index rfl rfl (by kernel_rfl : slTy _ _ = some (csz api_Node)) (RS.based (q1957.mono hS2526.zle) (by omega)) hc2530.1 hc2530.2) ?_
  obtain ⟨x2531, hx2532, ho2521⟩ := obind ho2521
  obtain ⟨cs2533, hc2534, he2535⟩ := RS.elz (q1957.mono hS2526.zle) (i := x2524) hx2532
  obtain ⟨v2537, q2538, rfl⟩ := rc_api_Node hc2534
  refine r_step rfl trivial (o_lde (w := .agg #[V x2531.Kind, V x2531.From, V x2531.To, V x2531.Up, v2537, .bool x2531.Key]) (he2535 _ (hS2526.zin0 (Zle.refl _))) rfl (by kernel_rfl)) ?_
  refine r_blk rfl trivial (o_alloc (cs := [V 0, V 0, V 0, V 0, .slice none 0 0, .bool false]) (by kernel_rfl)) hS2526 ?_
  intro b2539 h2540 hS2541
  refine xq 1 [(7, V x2524), (8, Pt b2539 0), (21, .agg #[V x2531.Kind, V x2531.From, V x2531.To, V x2531.Up, v2537, .bool x2531.Key]), (1, v1960), (2, .func (.func 30) #[] #[]), (15, v1958), (16, V (a0.length : Int)), (17, V x2524)] ?_
  refine r_ex1 rfl trivial (o_stb (vs := [V x2531.Kind, V x2531.From, V x2531.To, V x2531.Up, v2537, .bool x2531.Key]) (cells' := (K46 v2537 x2531)) (L' := [.blk b2539 (K46 v2537 x2531)]) hS2541 (i := 0) rfl rfl rfl rfl (by kernel_rfl) (one_cons rfl (one_cons rfl (one_cons rfl (one_cons rfl (one_cons (RS.one1 q2538) (one_cons rfl one_nil)))))) rfl rfl rfl) ?_
  intro h2542 hS2543
  refine xf [(7, V x2524), (8, Pt b2539 0), (1, v1960), (2, .func (.func 30) #[] #[]), (15, v1958), (16, V (a0.length : Int)), (17, V x2524)] ?_
  refine sr r29_6 ?_
  refine xq 2 [(23, V x2524), (22, v1960), (8, Pt b2539 0), (1, v1960), (2, .func (.func 30) #[] #[]), (15, v1958), (16, V (a0.length : Int)), (17, V x2524)] ?_
  obtain ⟨hc2544, ho2521⟩ := chk ho2521
  refine r_step rfl trivial (o_index rfl rfl (by kernel_rfl : slTy _ _ = some (csz api_Node)) (RS.based (q1959.mono hS2526.zle) (by omega)) hc2544.1 hc2544.2) ?_
  obtain ⟨x2545, hx2546, ho2521⟩ := obind ho2521
  obtain ⟨cs2547, hc2548, he2549⟩ := RS.elz (q1959.mono hS2526.zle) (i := x2524) hx2546
  obtain ⟨v2551, q2552, rfl⟩ := rc_api_Node hc2548
  refine r_step rfl trivial (o_lde (w := .agg #[V x2545.Kind, V x2545.From, V x2545.To, V x2545.Up, v2551, .bool x2545.Key]) (he2549 _ (hS2543.zin0 (Zle.refl _))) rfl (by kernel_rfl)) ?_
  refine r_blk rfl trivial (o_alloc (cs := [V 0, V 0, V 0, V 0, .slice none 0 0, .bool false]) (by kernel_rfl)) hS2543 ?_
  intro b2553 h2554 hS2555
  refine r_ex1 rfl trivial (o_stb (vs := [V x2545.Kind, V x2545.From, V x2545.To, V x2545.Up, v2551, .bool x2545.Key]) (cells' := (K46 v2551 x2545)) (L' := [.blk b2553 (K46 v2551 x2545), .blk b2539 (K46 v2537 x2531)]) hS2555 (i := 0) rfl rfl rfl rfl (by kernel_rfl) (one_cons rfl (one_cons rfl (one_cons rfl (one_cons rfl (one_cons (RS.one1 q2552) (one_cons rfl one_nil)))))) rfl rfl rfl) ?_
  intro h2556 hS2557
  refine xf [(9, Pt b2553 0), (8, Pt b2539 0), (1, v1960), (2, .func (.func 30) #[] #[]), (15, v1958), (16, V (a0.length : Int)), (17, V x2524)] ?_
  refine sr r29_7 ?_
  refine xq 1 [(26, .func (.func 30) #[] #[]), (9, Pt b2553 0), (8, Pt b2539 0), (1, v1960), (2, .func (.func 30) #[] #[]), (15, v1958), (16, V (a0.length : Int)), (17, V x2524)] ?_
  refine r_step rfl trivial (o_ldb (v := .agg #[V x2531.Kind, V x2531.From, V x2531.To, V x2531.Up, v2537, .bool x2531.Key]) hS2557 (i := 1) rfl rfl (by kernel_rfl)) ?_
  refine r_step rfl trivial (o_ldb (v := .agg #[V x2545.Kind, V x2545.From, V x2545.To, V x2545.Up, v2551, .bool x2545.Key]) hS2557 (i := 0) rfl rfl (by kernel_rfl)) ?_
  obtain ⟨r2566, hx2567, ho2521⟩ := obind ho2521
  obtain ⟨v2568, h2569, hcl2570, hSc2571, rfl⟩ := arena_Same_1_ok F hS2557.inv q2538 q2552 hx2567
  have hS2572 := St.call (A := []) (B := [.blk b2553 (K46 v2551 x2545), .blk b2539 (K46 v2537 x2531)]) hS2557 hSc2571
  replace hS2572 : St _ _ _ _ _ _ [.blk b2553 (K46 v2551 x2545), .blk b2539 (K46 v2537 x2531)] := hS2572
  refine r_step rfl trivial (o_call hcl2570 rfl rfl rfl) ?_
  rcases ifs ho2521 with ⟨hp2573, ho2521⟩ | ⟨hp2573, ho2521⟩
  refine r_setb (t := 29) rfl hp2573 ?_
  refine xe 1 [(30, .bool false), (1, v1960), (2, .func (.func 30) #[] #[]), (15, v1958), (16, V (a0.length : Int)), (17, V x2524)] ?_
  refine kF 30 rfl ?_
  refine rg r29_9 ?_
  refine xe 2 [(17, V (w64 (x2524 + 1))), (1, v1960), (2, .func (.func 30) #[] #[]), (15, v1958), (16, V (a0.length : Int))] ?_
  exact ⟨n2527, Nat.lt_succ_self _, ⟨_, w64 (x2524 + 1), ho2521, rfl, (hS2572.takeN 0)⟩⟩
  refine r_setb (t := 29) rfl (Bool.eq_false_iff.2 hp2573) ?_
  refine xe 1 [(30, .bool true), (1, v1960), (2, .func (.func 30) #[] #[]), (15, v1958), (16, V (a0.length : Int)), (17, V x2524)] ?_
  refine cT 30 rfl ?_
  refine sr r29_8 ?_
  refine xe 1 [(6, .bool false)] ?_
  refine rt ?_
  refine blkX_ret ?_
  refine blkX_ret ?_
  refine ⟨rfl, ?_⟩
  obtain rfl := Option.some.inj ho2521
  obtain rfl := Option.some.inj hm
  refine ⟨_, _, _, ResL.tmp rfl (ResL.nil), hS2572, ?_⟩
  exact rfl
  refine r_step rfl trivial (o_cmp rfl rfl (c_lss_F hp2529)) ?_
  refine xf [(18, .bool false), (1, v1960), (2, .func (.func 30) #[] #[]), (15, v1958), (16, V (a0.length : Int)), (17, V x2524)] ?_
  refine sq ?_
  refine cF 18 rfl ?_
  refine xt 0 ?_
  refine blkX_hit ?_
  obtain rfl := Option.some.inj ho2521
  exact ⟨_, rfl, rfl, hS2526⟩
  refine r_step rfl trivial (o_cmp rfl rfl (c_neq_T hp2421)) ?_
  refine xf [(14, .bool true), (0, v1958), (1, v1960), (2, .func (.func 30) #[] #[])] ?_
  refine cT 14 rfl ?_
  refine sr r29_2 ?_
  refine xe 1 [(6, .bool false)] ?_
  refine rt ?_
  refine ⟨rfl, ?_⟩
  obtain rfl := Option.some.inj hm
  refine ⟨_, _, _, ResL.tmp rfl (ResL.nil), hS, ?_⟩
  exact rfl

def r18_0 : List COp := [u 2 (.box 27 (t 0)), u 3 (.box 27 (t 1)), u 4 (.assign (.const (.bool false)))]
def r18_1 : List COp := [u 5 (.fieldAddr 27 (t 2) 0), u 6 (.load 25 (t 5)), u 7 (.fieldAddr 27 (t 3) 0), u 8 (.load 25 (t 7)), u 9 (cf 29 #[(t 6), (t 8), (.func 30)] #[25, 25, 63]), u 4 (.assign (t 9))]
def arena_Same (F : Nat) (a0 : arena_Tree) (a1 : arena_Tree) : Option Bool :=
  (slices_EqualFunc_api_Node F a0.Nodes a1.Nodes).bind fun r2590 =>
  some r2590
theorem arena_Same_ok (F : Nat) {h : AH} {Z : Zn} {a0 : arena_Tree} {a1 : arena_Tree} {v1948 : Value} {v1950 : Value} (hI : Inv Z h) (q1947 : RS (α := api_Node) Z v1948 a0.Nodes) (q1949 : RS (α := api_Node) Z v1950 a1.Nodes) {r : Bool} (hm : arena_Same F a0 a1 = some r) :
    ∃ v h', callI Go.Proofs.Try.prog 18 [.agg #[v1948], .agg #[v1950]] h = some (v, h') ∧ St h [] Z (0, 0) Z h' [] ∧ v = .bool r := by
  refine fn_plain (Q := fun v => v = .bool r) Go.Proofs.Try.func18 rfl rfl hI ?_
  intro hs hS
  unfold arena_Same at hm
  refine sr r18_0 ?_
  refine r_blk rfl trivial (o_box (cs := [v1948]) rfl rfl) hS ?_
  intro b2584 h2585 hS2586
  refine r_blk rfl trivial (o_box (cs := [v1950]) rfl rfl) hS2586 ?_
  intro b2587 h2588 hS2589
  refine xe 1 [(3, Pt b2587 0), (2, Pt b2584 0)] ?_
  refine sr r18_1 ?_
  refine xq 1 [(5, Pt b2584 0), (3, Pt b2587 0)] ?_
  refine r_step rfl trivial (o_ldb (v := v1948) hS2589 (i := 1) rfl rfl (by kernel_rfl)) ?_
  refine xq 1 [(7, Pt b2587 0), (6, v1948)] ?_
  refine r_step rfl trivial (o_ldb (v := v1950) hS2589 (i := 0) rfl rfl (by kernel_rfl)) ?_
  obtain ⟨r2590, hx2591, hm⟩ := obind hm
  obtain ⟨v2592, h2593, hcl2594, hSc2595, rfl⟩ := slices_EqualFunc_api_Node_ok F hS2589.inv q1947 q1949 hx2591
  have hS2596 := St.call (A := []) (B := [.blk b2587 [v1950], .blk b2584 [v1948]]) hS2589 hSc2595
  replace hS2596 : St _ _ _ _ _ _ [.blk b2587 [v1950], .blk b2584 [v1948]] := hS2596
  refine r_step rfl trivial (o_call hcl2594 rfl rfl rfl) ?_
  refine xe 1 [(4, .bool r2590)] ?_
  refine rt ?_
  refine ⟨rfl, ?_⟩
  obtain rfl := Option.some.inj hm
  refine ⟨_, _, _, ResL.tmp rfl (ResL.nil), hS2596, ?_⟩
  exact rfl

def r8_0 : List COp := [u 0 (.assign (.const (.bool false)))]
def r8_1 : List COp := [u 2 (cf 10 #[(ci 3)] #[3]), u 1 (.alloc 27), o (.store 27 (t 1) (t 2))]
def r8_2 : List COp := [u 3 (.fieldAddr 27 (t 1) 0), u 4 (.load 25 (t 3)), u 5 (cb .len #[(t 4)] #[25]), u 6 (.binOp .eql 3 (t 5) (ci 1) 3), u 7 (.move (t 6)), gT 7 (some 8) (.fieldAddr 27 (t 1) 0), gT 7 (some 9) (.load 25 (t 8)), gT 7 (some 10) (.indexAddr 25 (t 9) (ci 0)), gT 7 (some 11) (.fieldAddr 46 (t 10) 0), gT 7 (some 12) (.load 3 (t 11)), gT 7 (some 13) (.binOp .eql 3 (t 12) (ci 1) 3), u 14 (.pick (t 7) (t 13) (.const (.bool false))), u 15 (.move (t 14)), gT 15 (some 16) (.fieldAddr 27 (t 1) 0), gT 15 (some 17) (.load 25 (t 16)), gT 15 (some 18) (.indexAddr 25 (t 17) (ci 0)), gT 15 (some 19) (.fieldAddr 46 (t 18) 2), gT 15 (some 20) (.load 3 (t 19)), gT 15 (some 21) (.binOp .eql 3 (t 20) (ci 3) 3), u 22 (.pick (t 15) (t 21) (.const (.bool false))), u 23 (.move (t 22)), gT 23 (some 24) (.fieldAddr 27 (t 1) 0), gT 23 (some 25) (.load 25 (t 24)), gT 23 (some 26) (.indexAddr 25 (t 25) (ci 0)), gT 23 (some 27) (.fieldAddr 46 (t 26) 3), gT 23 (some 28) (.load 3 (t 27)), gT 23 (some 29) (.binOp .eql 3 (t 28) (ci (-1)) 3), u 30 (.pick (t 23) (t 29) (.const (.bool false))), u 0 (.assign (t 30))]
def correctorlaw10_known (F : Nat) : Option Bool :=
  (arena_New F 3).bind fun r2647 =>
  if (r2647.Nodes.length : Int) = (1 : Int) then
    if 0 ≤ (0 : Int) ∧ (0 : Int) < (r2647.Nodes.length : Int) then
      (r2647.Nodes[(0 : Int).toNat]?).bind fun x2668 =>
      if x2668.Kind = (1 : Int) then
        if 0 ≤ (0 : Int) ∧ (0 : Int) < (r2647.Nodes.length : Int) then
          (r2647.Nodes[(0 : Int).toNat]?).bind fun x2678 =>
          if x2678.To = (3 : Int) then
            if 0 ≤ (0 : Int) ∧ (0 : Int) < (r2647.Nodes.length : Int) then
              (r2647.Nodes[(0 : Int).toNat]?).bind fun x2688 =>
              if x2688.Up = (-1 : Int) then
                some true
              else
                some false
            else none
          else
            some false
        else none
      else
        some false
    else none
  else
    some false
theorem correctorlaw10_known_ok (F : Nat) {h : AH} {Z : Zn} (hI : Inv Z h) {r : Bool} (hm : correctorlaw10_known F = some r) :
    ∃ v h', callI Go.Proofs.Try.prog 8 [] h = some (v, h') ∧ St h [] Z (0, 0) Z h' [] ∧ v = .bool r := by
  refine fn_plain (Q := fun v => v = .bool r) Go.Proofs.Try.func8 rfl rfl hI ?_
  intro hs hS
  unfold correctorlaw10_known at hm
  refine sr r8_0 ?_
  refine xe 1 [] ?_
  refine sr r8_1 ?_
  obtain ⟨r2647, hx2648, hm⟩ := obind hm
  have hSr2654 : St _ _ _ _ _ _ ([] ++ []) := hS
  obtain ⟨v2649, h2650, Z2655, A2657, hcl2651, hSc2652, v2659, c2660, rfl, rfl, q2658⟩ := arena_New_ok F hSr2654.preL  hx2648
  have hS2653 := hSr2654.call hSc2652
  have hZ2656 := hSc2652.zle
  replace hS2653 : St _ _ _ _ _ _ [.gs v2659 c2660 (csz api_Node)] := hS2653
  refine r_step rfl trivial (o_call hcl2651 rfl rfl rfl) ?_
  refine r_blk rfl trivial (o_alloc (cs := [.slice none 0 0]) (by kernel_rfl)) hS2653 ?_
  intro b2661 h2662 hS2663
  refine r_ex1 rfl trivial (o_stb (vs := [v2659]) (cells' := [v2659]) (L' := [.blk b2661 [v2659], .gs v2659 c2660 (csz api_Node)]) hS2663 (i := 0) rfl rfl rfl rfl (by kernel_rfl) (one_cons (hS2663.gone1 (i := 1) rfl) one_nil) rfl rfl rfl) ?_
  intro h2664 hS2665
  refine xf [(1, Pt b2661 0)] ?_
  refine sr r8_2 ?_
  refine xq 1 [(3, Pt b2661 0), (1, Pt b2661 0)] ?_
  refine r_step rfl trivial (o_ldb (v := v2659) hS2665 (i := 0) rfl rfl (by kernel_rfl)) ?_
  refine r_step rfl trivial (o_len rfl (hS2665.glen (i := 1) rfl q2658) ⟨_, Go.Proofs.Try.underlying25⟩) ?_
  rcases ifs hm with ⟨hp2666, hm⟩ | ⟨hp2666, hm⟩
  refine r_step rfl trivial (o_cmp rfl rfl (c_eql_T hp2666)) ?_
  refine xq 2 [(8, Pt b2661 0), (7, .bool true), (1, Pt b2661 0)] ?_
  refine r_step rfl rfl (o_ldb (v := v2659) hS2665 (i := 0) rfl rfl (by kernel_rfl)) ?_
  obtain ⟨hc2667, hm⟩ := chk hm
  refine r_step rfl rfl (o_index rfl rfl (by kernel_rfl : slTy _ _ = some (csz api_Node)) (hS2665.gbased (j := 1) rfl q2658 (by omega)) hc2667.1 hc2667.2) ?_
  refine xq 1 [(11, .pointer (some (elemA v2659 0 (csz api_Node) 0))), (7, .bool true), (1, Pt b2661 0)] ?_
  obtain ⟨x2668, hx2669, hm⟩ := obind hm
  obtain ⟨cs2670, hc2671, he2672, ht2673⟩ := hS2665.gel (j := 1) rfl q2658 (i := 0) hx2669
  obtain ⟨v2674, q2675, rfl⟩ := rc_api_Node hc2671
  refine r_step rfl rfl (o_lde (w := V x2668.Kind) he2672 rfl (by kernel_rfl)) ?_
  rcases ifs hm with ⟨hp2676, hm⟩ | ⟨hp2676, hm⟩
  refine r_step rfl rfl (o_cmp rfl rfl (c_eql_T hp2676)) ?_
  refine xq 3 [(16, Pt b2661 0), (15, .bool true), (1, Pt b2661 0)] ?_
  refine r_step rfl rfl (o_ldb (v := v2659) hS2665 (i := 0) rfl rfl (by kernel_rfl)) ?_
  obtain ⟨hc2677, hm⟩ := chk hm
  refine r_step rfl rfl (o_index rfl rfl (by kernel_rfl : slTy _ _ = some (csz api_Node)) (hS2665.gbased (j := 1) rfl q2658 (by omega)) hc2677.1 hc2677.2) ?_
  refine xq 1 [(19, .pointer (some (elemA v2659 0 (csz api_Node) 2))), (15, .bool true), (1, Pt b2661 0)] ?_
  obtain ⟨x2678, hx2679, hm⟩ := obind hm
  obtain ⟨cs2680, hc2681, he2682, ht2683⟩ := hS2665.gel (j := 1) rfl q2658 (i := 0) hx2679
  obtain ⟨v2684, q2685, rfl⟩ := rc_api_Node hc2681
  refine r_step rfl rfl (o_lde (w := V x2678.To) he2682 rfl (by kernel_rfl)) ?_
  rcases ifs hm with ⟨hp2686, hm⟩ | ⟨hp2686, hm⟩
  refine r_step rfl rfl (o_cmp rfl rfl (c_eql_T hp2686)) ?_
  refine xq 3 [(24, Pt b2661 0), (23, .bool true)] ?_
  refine r_step rfl rfl (o_ldb (v := v2659) hS2665 (i := 0) rfl rfl (by kernel_rfl)) ?_
  obtain ⟨hc2687, hm⟩ := chk hm
  refine r_step rfl rfl (o_index rfl rfl (by kernel_rfl : slTy _ _ = some (csz api_Node)) (hS2665.gbased (j := 1) rfl q2658 (by omega)) hc2687.1 hc2687.2) ?_
  refine xq 1 [(27, .pointer (some (elemA v2659 0 (csz api_Node) 3))), (23, .bool true)] ?_
  obtain ⟨x2688, hx2689, hm⟩ := obind hm
  obtain ⟨cs2690, hc2691, he2692, ht2693⟩ := hS2665.gel (j := 1) rfl q2658 (i := 0) hx2689
  obtain ⟨v2694, q2695, rfl⟩ := rc_api_Node hc2691
  refine r_step rfl rfl (o_lde (w := V x2688.Up) he2692 rfl (by kernel_rfl)) ?_
  rcases ifs hm with ⟨hp2696, hm⟩ | ⟨hp2696, hm⟩
  refine r_step rfl rfl (o_cmp rfl rfl (c_eql_T hp2696)) ?_
  refine xe 2 [(0, .bool true)] ?_
  refine rt ?_
  refine ⟨rfl, ?_⟩
  obtain rfl := Option.some.inj hm
  refine ⟨_, _, _, ResL.tmp rfl (ResL.nil), hS2665, ?_⟩
  exact rfl
  refine r_step rfl rfl (o_cmp rfl rfl (c_eql_F hp2696)) ?_
  refine xe 2 [(0, .bool false)] ?_
  refine rt ?_
  refine ⟨rfl, ?_⟩
  obtain rfl := Option.some.inj hm
  refine ⟨_, _, _, ResL.tmp rfl (ResL.nil), hS2665, ?_⟩
  exact rfl
  refine r_step rfl rfl (o_cmp rfl rfl (c_eql_F hp2686)) ?_
  refine xe 10 [(0, .bool false)] ?_
  refine rt ?_
  refine ⟨rfl, ?_⟩
  obtain rfl := Option.some.inj hm
  refine ⟨_, _, _, ResL.tmp rfl (ResL.nil), hS2665, ?_⟩
  exact rfl
  refine r_step rfl rfl (o_cmp rfl rfl (c_eql_F hp2676)) ?_
  refine xe 18 [(0, .bool false)] ?_
  refine rt ?_
  refine ⟨rfl, ?_⟩
  obtain rfl := Option.some.inj hm
  refine ⟨_, _, _, ResL.tmp rfl (ResL.nil), hS2665, ?_⟩
  exact rfl
  refine r_step rfl trivial (o_cmp rfl rfl (c_eql_F hp2666)) ?_
  refine xe 25 [(0, .bool false)] ?_
  refine rt ?_
  refine ⟨rfl, ?_⟩
  obtain rfl := Option.some.inj hm
  refine ⟨_, _, _, ResL.tmp rfl (ResL.nil), hS2665, ?_⟩
  exact rfl

def r9_0 : List COp := [u 4 (.assign (ci 0))]
def r9_1 : List COp := [u 6 (.move (t 0)), u 7 (.move (t 1)), u 8 (.binOp .rem 3 (t 6) (t 7) 3), u 5 (.assign (t 8))]
def r9_2 : List COp := [u 9 (.move (t 5)), u 10 (.binOp .lss 3 (t 9) (ci 0) 3)]
def r9_3 : List COp := [u 11 (.move (t 5)), u 12 (.move (t 1)), u 13 (.binOp .add 3 (t 11) (t 12) 3), u 5 (.assign (t 13))]
def r9_4 : List COp := [u 14 (.move (t 5)), u 4 (.assign (t 14))]
def correctorlaw10_within (F : Nat) (a0 : Int) (a1 : Int) : Option Int :=
  if ¬ a1 = (0 : Int) then
    ((if (a0.tmod a1) < (0 : Int) then
        some (w64 ((a0.tmod a1) + a1))
      else
        some (a0.tmod a1)) : Option Int).bind fun o => match o with
      | x2709 => some x2709
  else none
theorem correctorlaw10_within_ok (F : Nat) {h : AH} {Z : Zn} {a0 : Int} {a1 : Int} (hI : Inv Z h) {r : Int} (hm : correctorlaw10_within F a0 a1 = some r) :
    ∃ v h', callI Go.Proofs.Try.prog 9 [V a0, V a1] h = some (v, h') ∧ St h [] Z (0, 0) Z h' [] ∧ v = V r := by
  refine fn_plain (Q := fun v => v = V r) Go.Proofs.Try.func9 rfl rfl hI ?_
  intro hs hS
  unfold correctorlaw10_within at hm
  refine sr r9_0 ?_
  refine xe 1 [(0, V a0), (1, V a1)] ?_
  refine sr r9_1 ?_
  refine xq 2 [(7, V a1), (6, V a0), (1, V a1)] ?_
  obtain ⟨hc2703, hm⟩ := chk hm
  refine r_step rfl trivial (o_rem hc2703 rfl rfl) ?_
  refine xe 1 [(5, V (a0.tmod a1)), (1, V a1)] ?_
  refine sq ?_
  obtain ⟨o2706, ho2705, hm⟩ := obind hm
  refine W_seqJoin0 [5] (fun l h => ∃ Z2708 : Zn, ∃ x2709 : Int, x2709 = o2706 ∧ l = [(5, V x2709)] ∧ St hs [] Z (0, 0) Z2708 h []) (by kernel_rfl) ?_ ?_
  rintro l h2710 ⟨Z2708, x2709, rfl, rfl, hS2711⟩
  try dsimp only at hm
  refine sr r9_4 ?_
  refine xe 2 [(4, V x2709)] ?_
  refine rt ?_
  refine ⟨rfl, ?_⟩
  obtain rfl := Option.some.inj hm
  refine ⟨_, _, _, ResL.tmp rfl (ResL.nil), hS2711, ?_⟩
  exact rfl
  refine rg r9_2 ?_
  refine xq 1 [(9, V (a0.tmod a1)), (5, V (a0.tmod a1)), (1, V a1)] ?_
  rcases ifs ho2705 with ⟨hp2707, ho2705⟩ | ⟨hp2707, ho2705⟩
  refine r_step rfl trivial (o_cmp rfl rfl (c_lss_T hp2707)) ?_
  refine xf [(10, .bool true), (5, V (a0.tmod a1)), (1, V a1)] ?_
  refine cT 10 rfl ?_
  refine rg r9_3 ?_
  refine xe 4 [(5, V (w64 ((a0.tmod a1) + a1)))] ?_
  obtain rfl := Option.some.inj ho2705
  exact ⟨_, w64 ((a0.tmod a1) + a1), rfl, rfl, hS⟩
  refine r_step rfl trivial (o_cmp rfl rfl (c_lss_F hp2707)) ?_
  refine xf [(10, .bool false), (5, V (a0.tmod a1)), (1, V a1)] ?_
  refine kF 10 rfl ?_
  obtain rfl := Option.some.inj ho2705
  exact ⟨_, a0.tmod a1, rfl, rfl, hS⟩

end Go.Proofs.Ytpijjenaadkjdaa.M
