/- Arena, plainly: what the printed functions answer, told by lists. -/
import Derived.Test.YtahcngeimlkcgaaP11A
namespace Go.Proofs.Ytahcngeimlkcgaa.M
open Go Am Sy
set_option linter.unusedVariables false
set_option linter.unusedSimpArgs false
theorem clone_int (F : Nat) (a : List Int) (h : a.length ≤ 17592186044416) : slices_Clone_int F a = some a := by
 unfold slices_Clone_int
 have h2 : ([] : List Int).length + a.length ≤ 17592186044416 := by simpa using h
 rw [if_pos h2]; simp
theorem clone_node (F : Nat) (a : List api_Node) (h : a.length ≤ 2199023255552) : slices_Clone_api_Node F a = some a := by
 unfold slices_Clone_api_Node
 have h2 : ([] : List api_Node).length + a.length ≤ 2199023255552 := by simpa using h
 rw [if_pos h2]; simp
structure Small (l : List api_Node) : Prop where
 n : l.length ≤ 1000000
 k : ∀ x ∈ l, x.Kids.length ≤ 1000000
theorem get_nat {α : Type} (l : List α) (i : Nat) : l[((i : Int)).toNat]? = l[i]? := by simp
theorem own_l0 (F : Nat) (a0 : arena_Tree) (l : List api_Node) (hs : Small l) : ∀ (d n i : Nat), i + d = l.length → d < n → arena_own_l0 F a0 n l (l.length : Int) (i : Int) = some l := by
 intro d
 induction d with
 | zero =>
  intro n i h1 h2
  obtain ⟨n, rfl⟩ : ∃ m, n = m + 1 := ⟨n - 1, by omega⟩
  rw [arena_own_l0, if_neg (by omega)]
 | succ d ih =>
  intro n i h1 h2
  obtain ⟨n, rfl⟩ : ∃ m, n = m + 1 := ⟨n - 1, by omega⟩
  have hi : i < l.length := by omega
  have hn := hs.n
  have hg : l[((i : Int)).toNat]? = some l[i] := by rw [get_nat, List.getElem?_eq_getElem hi]
  have hk := hs.k l[i] (List.getElem_mem hi)
  rw [arena_own_l0, if_pos (by omega), if_pos (by omega), hg]
  simp only [Option.bind_some]
  rw [clone_int F _ (by omega)]
  simp only [Option.bind_some]
  rw [if_pos (by omega)]
  have hset : l.set ((i : Int)).toNat (⟨l[i].Kind, l[i].From, l[i].To, l[i].Up, l[i].Kids, l[i].Key⟩ : api_Node) = l := by
   have : ((i : Int)).toNat = i := by simp
   rw [this]; exact List.set_getElem_self hi
  rw [hset]
  have hw : w64 ((i : Int) + 1) = ((i + 1 : Nat) : Int) := by rw [w64_eq (by omega) (by omega)]; omega
  rw [hw]
  exact ih n (i + 1) (by omega) (by omega)
theorem own_eq (F : Nat) (t : arena_Tree) (hs : Small t.Nodes) (hF : t.Nodes.length < F) : arena_own F t = some ⟨t⟩ := by
 unfold arena_own
 have hn := hs.n
 rw [clone_node F _ (by omega)]
 simp only [Option.bind_some]
 have := own_l0 F t t.Nodes hs t.Nodes.length F 0 (by omega) hF
 rw [show ((0 : Nat) : Int) = 0 from rfl] at this
 rw [this]; rfl
theorem has_eq (F : Nat) (f : arena_forest) (i : Int) : arena_forest_has F f i = some (decide (0 ≤ i ∧ i < f.Tree.Nodes.length)) := by
 unfold arena_forest_has
 by_cases h1 : 0 ≤ i
 ·rw [if_pos h1]
  by_cases h2 : i < f.Tree.Nodes.length
  ·rw [if_pos h2]; simp [h1, h2]
  ·rw [if_neg h2]; simp [h2]
 ·rw [if_neg h1]; simp [h1]
def endOf (l : List api_Node) (up : Nat) : Option Int := (l[up]?).map fun x => match x.Kids.getLast? with
 | none => x.From
 | some k => if 0 ≤ k then (match l[k.toNat]? with | some y => imax x.From y.To | none => x.From) else x.From
theorem end_eq (F : Nat) (f : arena_forest) (up : Nat) (hs : Small f.Tree.Nodes) (hu : up < f.Tree.Nodes.length) : arena_forest_end F f (up : Int) = endOf f.Tree.Nodes up := by
 unfold arena_forest_end endOf
 have hg : f.Tree.Nodes[((up : Int)).toNat]? = some f.Tree.Nodes[up] := by rw [get_nat, List.getElem?_eq_getElem hu]
 have hg' : f.Tree.Nodes[up]? = some f.Tree.Nodes[up] := List.getElem?_eq_getElem hu
 rw [if_pos (by omega), hg, hg']
 simp only [Option.bind_some, Option.map_some]
 have hk := hs.k _ (List.getElem_mem hu)
 generalize f.Tree.Nodes[up] = x at *
 by_cases h0 : (0 : Int) < x.Kids.length
 ·rw [if_pos h0]
  have hw : w64 ((x.Kids.length : Int) - 1) = ((x.Kids.length - 1 : Nat) : Int) := by rw [w64_eq (by omega) (by omega)]; omega
  rw [hw, if_pos (by omega)]
  have hl : x.Kids.length - 1 < x.Kids.length := by omega
  have hlast : x.Kids.getLast? = some x.Kids[x.Kids.length - 1] := by rw [List.getLast?_eq_getElem?, List.getElem?_eq_getElem hl]
  rw [get_nat, List.getElem?_eq_getElem hl, hlast]
  simp only [Option.bind_some, has_eq]
  generalize x.Kids[x.Kids.length - 1] = k
  by_cases hk1 : 0 ≤ k ∧ k < f.Tree.Nodes.length
  ·rw [if_pos (by simpa using hk1), if_pos (by omega)]
   rw [if_pos hk1, if_pos hk1.1]
   have hkl : k.toNat < f.Tree.Nodes.length := by omega
   rw [List.getElem?_eq_getElem hkl]
   simp only [Option.bind_some]
  ·rw [if_neg (by simpa using hk1)]
   simp only [Option.bind_some]
   by_cases hk0 : 0 ≤ k
   ·rw [if_pos hk0]
    rw [List.getElem?_eq_none (by omega)]
   ·rw [if_neg hk0]
 ·rw [if_neg h0]
  have : x.Kids = [] := List.eq_nil_of_length_eq_zero (by omega)
  rw [this]; rfl
def toMax (x : api_Node) (to : Int) : api_Node := { x with To := imax x.To to }
def growL : Nat → List api_Node → Int → Int → List api_Node
 | 0, l, _, _ => l
 | k + 1, l, i, to => if 0 ≤ i then (match l[i.toNat]? with | some x => growL k (l.set i.toNat (toMax x to)) x.Up to | none => l) else l
theorem grow_l0 (F : Nat) (a0 : arena_forest) (a1 to : Int) : ∀ (k n : Nat) (l : List api_Node) (i : Int), k < n → k ≤ 1000000 → arena_forest_grow_l0 F a0 a1 to n l i (k : Int) = some (growL k l i to) := by
 intro k
 induction k with
 | zero =>
  intro n l i h1 _
  obtain ⟨n, rfl⟩ : ∃ m, n = m + 1 := ⟨n - 1, by omega⟩
  rw [arena_forest_grow_l0, has_eq]
  simp only [Option.bind_some]
  split
  ·rw [if_neg (by omega)]; rfl
  ·rfl
 | succ k ih =>
  intro n l i h1 h2
  obtain ⟨n, rfl⟩ : ∃ m, n = m + 1 := ⟨n - 1, by omega⟩
  rw [arena_forest_grow_l0, has_eq]
  simp only [Option.bind_some, growL]
  by_cases hh : 0 ≤ i ∧ i < l.length
  ·rw [if_pos (by simpa using hh), if_pos (by omega), if_pos (by omega), if_pos hh.1]
   have hl : i.toNat < l.length := by omega
   rw [List.getElem?_eq_getElem hl]
   simp only [Option.bind_some]
   rw [if_pos hh, if_pos (by rw [List.length_set]; exact hh), List.getElem?_set_self hl]
   simp only [Option.bind_some]
   have hw : w64 (((k + 1 : Nat) : Int) - 1) = (k : Int) := by rw [w64_eq (by omega) (by omega)]; omega
   rw [hw]
   exact ih n _ _ (by omega) (by omega)
  ·rw [if_neg (by simpa using hh)]
   by_cases h0 : 0 ≤ i
   ·rw [if_pos h0, List.getElem?_eq_none (by omega)]
   ·rw [if_neg h0]
theorem forest_grow_eq (F : Nat) (f : arena_forest) (i to : Int) (hs : f.Tree.Nodes.length ≤ 1000000) (hF : f.Tree.Nodes.length < F) : arena_forest_grow F f i to = some ⟨⟨growL f.Tree.Nodes.length f.Tree.Nodes i to⟩⟩ := by
 unfold arena_forest_grow
 rw [grow_l0 F f i to _ _ _ _ hF hs]; rfl
theorem growL_length : ∀ (k : Nat) (l : List api_Node) (i to : Int), (growL k l i to).length = l.length := by
 intro k
 induction k with
 | zero => intro l i to; rfl
 | succ k ih =>
  intro l i to
  simp only [growL]
  split
  ·split
   ·rw [ih, List.length_set]
   ·rfl
  ·rfl
theorem new_eq (F : Nat) (n : Int) (h0 : 0 ≤ n) (h1 : n ≤ 32768) : arena_New F n = some ⟨[⟨1, 0, n, -1, [], false⟩]⟩ := by
 unfold arena_New
 rw [if_neg (by omega), if_neg (by omega)]; rfl
def mayAdd (l : List api_Node) (up kind frm to : Int) : Prop :=
 0 ≤ up ∧ up < l.length ∧ 1 ≤ kind ∧ kind ≤ 11 ∧ frm ≤ to ∧ (∃ x, l[0]? = some x ∧ to ≤ x.To) ∧ (∃ e, endOf l up.toNat = some e ∧ e ≤ frm)
def addL (l : List api_Node) (up kind frm to : Int) : List api_Node :=
 match l[up.toNat]? with
 | some x => growL (l.length + 1) ((l ++ [(⟨kind, frm, to, up, [], false⟩ : api_Node)]).set up.toNat { x with Kids := x.Kids ++ [(l.length : Int)] }) up to
 | none => l
theorem add_no (F : Nat) (t : arena_Tree) (up kind frm to : Int) (hs : Small t.Nodes) (hF : t.Nodes.length < F) (hno : ¬ mayAdd t.Nodes up kind frm to) : arena_Add F t up kind frm to = some (t, -1) := by
 unfold arena_Add
 rw [own_eq F t hs hF]
 simp only [Option.bind_some, has_eq]
 by_cases h1 : 0 ≤ up ∧ up < t.Nodes.length
 ·rw [if_pos (by simpa using h1)]
  by_cases h2 : kind < 1
  ·rw [if_pos h2]
  rw [if_neg h2]
  by_cases h3 : 11 < kind
  ·rw [if_pos h3]
  rw [if_neg h3]
  by_cases h4 : to < frm
  ·rw [if_pos h4]
  rw [if_neg h4, if_pos (by omega)]
  have hl : 0 < t.Nodes.length := by omega
  have hz : ((0 : Int)).toNat = 0 := rfl
  rw [hz, List.getElem?_eq_getElem hl]
  simp only [Option.bind_some]
  by_cases h5 : t.Nodes[0].To < to
  ·rw [if_pos h5]
  rw [if_neg h5]
  obtain ⟨u, rfl⟩ := Int.eq_ofNat_of_zero_le h1.1
  have hu : u < t.Nodes.length := by omega
  rw [end_eq F ⟨t⟩ u hs hu]
  have he : ∃ e, endOf t.Nodes u = some e := by unfold endOf; rw [List.getElem?_eq_getElem hu]; exact ⟨_, rfl⟩
  obtain ⟨e, he⟩ := he
  rw [he]
  simp only [Option.bind_some]
  by_cases h6 : frm < e
  ·rw [if_pos h6]
  exact absurd ⟨h1.1, h1.2, by omega, by omega, by omega, ⟨_, List.getElem?_eq_getElem hl, by omega⟩, ⟨e, by simpa using he, by omega⟩⟩ hno
 ·rw [if_neg (by simpa using h1)]
theorem add_yes (F : Nat) (t : arena_Tree) (up kind frm to : Int) (hs : Small t.Nodes) (hn : t.Nodes.length < 1000000) (hF : t.Nodes.length + 1 < F) (hyes : mayAdd t.Nodes up kind frm to) : arena_Add F t up kind frm to = some (⟨addL t.Nodes up kind frm to⟩, (t.Nodes.length : Int)) := by
 obtain ⟨h0, h1, h2, h3, h4, ⟨x, h5, h6⟩, ⟨e, h7, h8⟩⟩ := hyes
 unfold arena_Add
 rw [own_eq F t hs (by omega)]
 simp only [Option.bind_some, has_eq]
 rw [if_pos (by simp [h0, h1]), if_neg (by omega), if_neg (by omega), if_neg (by omega), if_pos (by omega)]
 have hz : ((0 : Int)).toNat = 0 := rfl
 rw [hz, h5]
 simp only [Option.bind_some]
 rw [if_neg (by omega)]
 obtain ⟨u, rfl⟩ := Int.eq_ofNat_of_zero_le h0
 have hu : u < t.Nodes.length := by omega
 simp only [Int.toNat_natCast] at h7
 rw [end_eq F ⟨t⟩ u hs hu, h7]
 simp only [Option.bind_some]
 rw [if_neg (by omega)]
 have hk := hs.k _ (List.getElem_mem hu)
 have hlen : (t.Nodes ++ [(⟨kind, frm, to, (u : Int), [], false⟩ : api_Node)]).length = t.Nodes.length + 1 := by simp
 have hgu : (t.Nodes ++ [(⟨kind, frm, to, (u : Int), [], false⟩ : api_Node)])[u]? = some t.Nodes[u] := by
  rw [List.getElem?_append_left hu, List.getElem?_eq_getElem hu]
 rw [if_pos (by rw [List.length_singleton]; omega), if_pos (by rw [hlen]; omega), Int.toNat_natCast, hgu]
 simp only [Option.bind_some]
 rw [if_pos (by omega)]
 have htk : (t.Nodes[u].Kids.take (t.Nodes[u].Kids.length : Int).toNat).drop 0 = t.Nodes[u].Kids := by simp
 rw [htk, if_pos (by rw [List.length_singleton]; omega), if_pos (by rw [hlen]; omega)]
 have hfl : (((t.Nodes ++ [(⟨kind, frm, to, (u : Int), [], false⟩ : api_Node)]).set u ⟨t.Nodes[u].Kind, t.Nodes[u].From, t.Nodes[u].To, t.Nodes[u].Up, t.Nodes[u].Kids ++ [(t.Nodes.length : Int)], t.Nodes[u].Key⟩)).length = t.Nodes.length + 1 := by rw [List.length_set, hlen]
 rw [forest_grow_eq F _ _ _ (by show List.length _ ≤ _; rw [hfl]; omega) (by show List.length _ < _; rw [hfl]; omega)]
 simp only [Option.bind_some]
 unfold addL
 rw [Int.toNat_natCast, List.getElem?_eq_getElem hu]
 simp only [hfl]
theorem grow_eq (F : Nat) (t : arena_Tree) (i to : Int) (hs : Small t.Nodes) (hF : t.Nodes.length < F) (h0 : 0 < t.Nodes.length) : arena_Grow F t i to = some ⟨if 0 ≤ i ∧ i < t.Nodes.length ∧ to ≤ t.Nodes[0].To then growL t.Nodes.length t.Nodes i to else t.Nodes⟩ := by
 unfold arena_Grow
 rw [own_eq F t hs hF]
 simp only [Option.bind_some, has_eq]
 have hz : ((0 : Int)).toNat = 0 := rfl
 have hn := hs.n
 by_cases h1 : 0 ≤ i ∧ i < t.Nodes.length
 ·rw [decide_eq_true h1]
  simp only [if_true]
  rw [hz, List.getElem?_eq_getElem h0, if_pos (by omega)]
  simp only [Option.bind_some]
  by_cases h2 : t.Nodes[0].To < to
  ·rw [if_neg (by omega), if_neg (by omega)]
   rfl
  ·rw [if_pos (by omega), if_pos ⟨h1.1, h1.2, by omega⟩]
   simp only [forest_grow_eq F ⟨t⟩ i to hn hF, Option.bind_some]
 ·have hno : ¬ (0 ≤ i ∧ i < t.Nodes.length ∧ to ≤ t.Nodes[0].To) := fun q => h1 ⟨q.1, q.2.1⟩
  rw [decide_eq_false h1]
  simp only [if_neg hno]
  rfl
end Go.Proofs.Ytahcngeimlkcgaa.M
