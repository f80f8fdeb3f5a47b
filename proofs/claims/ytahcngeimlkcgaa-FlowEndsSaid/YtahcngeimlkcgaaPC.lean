/- Arena, plainly: whether nodes lie as they must. -/
import Derived.Test.YtahcngeimlkcgaaPA
import Derived.Test.YtahcngeimlkcgaaME0
namespace Go.Proofs.Ytahcngeimlkcgaa.M
open Go Am Sy
set_option linter.unusedVariables false
set_option linter.unusedSimpArgs false
def liesL (l : List api_Node) (i to : Int) : List Int → Int → Bool
 | [], _ => true
 | k :: ks, e => if k ≤ i then false else match (if 0 ≤ k ∧ k < l.length then l[k.toNat]? else none) with
  | none => false
  | some y => if y.Up = i then (if y.From < e then false else if to < y.To then false else liesL l i to ks y.To) else false
theorem lies_l0 (F : Nat) (f : arena_forest) (i : Int) (x : api_Node) (kids : List Int) (hk : kids.length ≤ 1000000) : ∀ (d n j : Nat) (e : Int), j + d = kids.length → d < n →
  arena_forest_lies_l0 F f i n x e kids (kids.length : Int) (j : Int) = some (if liesL f.Tree.Nodes i x.To (kids.drop j) e = true then .inl x else .inr false) := by
 intro d
 induction d with
 | zero =>
  intro n j e h1 h2
  obtain ⟨n, rfl⟩ : ∃ m, n = m + 1 := ⟨n - 1, by omega⟩
  rw [arena_forest_lies_l0, if_neg (by omega), List.drop_eq_nil_of_le (by omega)]
  simp [liesL]
 | succ d ih =>
  intro n j e h1 h2
  obtain ⟨n, rfl⟩ : ∃ m, n = m + 1 := ⟨n - 1, by omega⟩
  have hj : j < kids.length := by omega
  rw [arena_forest_lies_l0, if_pos (by omega), if_pos (by omega), get_nat, List.getElem?_eq_getElem hj, List.drop_eq_getElem_cons hj]
  simp only [Option.bind_some, has_eq]
  generalize kids[j] = k
  by_cases h3 : k ≤ i
  ·have hv : liesL f.Tree.Nodes i x.To (k :: kids.drop (j + 1)) e = false := by simp [liesL, h3]
   rw [if_pos h3]; simp [hv]
  ·rw [if_neg h3]
   by_cases h4 : 0 ≤ k ∧ k < f.Tree.Nodes.length
   ·have hkl : k.toNat < f.Tree.Nodes.length := by omega
    have hy : f.Tree.Nodes[k.toNat]? = some f.Tree.Nodes[k.toNat] := List.getElem?_eq_getElem hkl
    rw [if_pos (by simpa using h4), if_pos h4, hy]
    simp only [Option.bind_some]
    generalize f.Tree.Nodes[k.toNat] = y at hy
    by_cases h5 : y.Up = i
    ·rw [if_pos h5, if_pos h4]
     by_cases h6 : y.From < e
     ·have hv : liesL f.Tree.Nodes i x.To (k :: kids.drop (j + 1)) e = false := by
       unfold liesL; rw [if_neg h3, if_pos h4, hy]; simp only [if_pos h5, if_pos h6]
      rw [if_pos h6]; simp [hv]
     ·rw [if_neg h6, if_pos h4]
      by_cases h7 : x.To < y.To
      ·have hv : liesL f.Tree.Nodes i x.To (k :: kids.drop (j + 1)) e = false := by
        unfold liesL; rw [if_neg h3, if_pos h4, hy]; simp only [if_pos h5, if_neg h6, if_pos h7]
       rw [if_pos h7]; simp [hv]
      ·have hv : liesL f.Tree.Nodes i x.To (k :: kids.drop (j + 1)) e = liesL f.Tree.Nodes i x.To (kids.drop (j + 1)) y.To := by
        conv => lhs; unfold liesL
        rw [if_neg h3, if_pos h4, hy]; simp only [if_pos h5, if_neg h6, if_neg h7]
       rw [if_neg h7, if_pos h4]
       have hw : w64 ((j : Int) + 1) = ((j + 1 : Nat) : Int) := by rw [w64_eq (by omega) (by omega)]; omega
       rw [hw, ih n (j + 1) y.To (by omega) (by omega)]
       simp only [hv]
    ·have hv : liesL f.Tree.Nodes i x.To (k :: kids.drop (j + 1)) e = false := by
      unfold liesL; rw [if_neg h3, if_pos h4, hy]; simp only [if_neg h5]
     rw [if_neg h5]; simp [hv]
   ·have hv : liesL f.Tree.Nodes i x.To (k :: kids.drop (j + 1)) e = false := by
     unfold liesL; rw [if_neg h3, if_neg h4]
    rw [if_neg (by simpa using h4)]; simp [hv]
def liesB (l : List api_Node) (i : Int) (x : api_Node) : Bool := liesL l i x.To x.Kids x.From && decide (x.From ≤ x.To)
theorem lies_eq (F : Nat) (f : arena_forest) (i : Nat) (hs : Small f.Tree.Nodes) (hi : i < f.Tree.Nodes.length) (hF : ∀ x ∈ f.Tree.Nodes, x.Kids.length < F) : arena_forest_lies F f (i : Int) = some (liesB f.Tree.Nodes i f.Tree.Nodes[i]) := by
 unfold arena_forest_lies
 have hk := hs.k _ (List.getElem_mem hi)
 have hf := hF _ (List.getElem_mem hi)
 rw [if_pos (by omega), get_nat, List.getElem?_eq_getElem hi]
 simp only [Option.bind_some]
 generalize f.Tree.Nodes[i] = x at *
 have := lies_l0 F f i x x.Kids hk x.Kids.length F 0 x.From (by omega) hf
 rw [show ((0 : Nat) : Int) = 0 from rfl, List.drop_zero] at this
 rw [this]
 unfold liesB
 cases liesL f.Tree.Nodes i x.To x.Kids x.From with
 | true =>
  simp only [if_true, Option.bind_some, Bool.true_and]
  by_cases h : x.From ≤ x.To
  ·rw [if_pos h]; simp [h]
  ·rw [if_neg h]; simp [h]
 | false => simp
theorem index_l0 (F : Nat) (a : List Int) (x : Int) (hl : a.length ≤ 1000000) : ∀ (d n i : Nat), i + d = a.length → d < n → ∃ r, slices_Index_int_l0 F a x n (i : Int) = some r ∧ (match r with | .inl _ => x ∉ a.drop i | .inr y => 0 ≤ y ∧ x ∈ a.drop i) := by
 intro d
 induction d with
 | zero =>
  intro n i h1 h2
  obtain ⟨n, rfl⟩ : ∃ m, n = m + 1 := ⟨n - 1, by omega⟩
  rw [slices_Index_int_l0, if_neg (by omega)]
  refine ⟨_, rfl, ?_⟩
  simp only
  rw [List.drop_eq_nil_of_le (by omega)]; simp
 | succ d ih =>
  intro n i h1 h2
  obtain ⟨n, rfl⟩ : ∃ m, n = m + 1 := ⟨n - 1, by omega⟩
  have hi : i < a.length := by omega
  rw [slices_Index_int_l0, if_pos (by omega), if_pos (by omega), get_nat, List.getElem?_eq_getElem hi]
  simp only [Option.bind_some]
  by_cases h : x = a[i]
  ·rw [if_pos h]
   refine ⟨_, rfl, by omega, ?_⟩
   rw [List.drop_eq_getElem_cons hi, ← h]; simp
  ·rw [if_neg h]
   have hw : w64 ((i : Int) + 1) = ((i + 1 : Nat) : Int) := by rw [w64_eq (by omega) (by omega)]; omega
   rw [hw]
   obtain ⟨r, e1, e2⟩ := ih n (i + 1) (by omega) (by omega)
   refine ⟨r, e1, ?_⟩
   have hd := List.drop_eq_getElem_cons hi
   cases r with
   | inl u =>
    simp only at e2 ⊢
    intro q
    rw [hd] at q
    rcases List.mem_cons.1 q with q | q
    ·exact h q
    ·exact e2 q
   | inr y => simp only at e2 ⊢; rw [hd]; exact ⟨e2.1, List.mem_cons_of_mem _ e2.2⟩
theorem contains_eq (F : Nat) (a : List Int) (x : Int) (hl : a.length ≤ 1000000) (hF : a.length < F) : slices_Contains_int F a x = some (decide (x ∈ a)) := by
 unfold slices_Contains_int slices_Index_int
 obtain ⟨r, e1, e2⟩ := index_l0 F a x hl a.length F 0 (by omega) hF
 rw [show ((0 : Nat) : Int) = 0 from rfl] at e1
 rw [e1]
 simp only [Option.bind_some]
 cases r with
 | inl u =>
  simp only [List.drop_zero] at e2
  simp [e2]
 | inr y =>
  simp only [List.drop_zero] at e2
  simp [e2.1, e2.2]
def ndL (pre : List Int) : List Int → Bool
 | [] => true
 | k :: ks => !decide (k ∈ pre) && ndL (pre ++ [k]) ks
theorem check_l1 (F : Nat) (a0 : arena_Tree) (a1 : Int) (l : List api_Node) (s : Int) (x : api_Node) (len i : Int) (hk : x.Kids.length ≤ 1000000) (hF : x.Kids.length < F) : ∀ (d n j : Nat), j + d = x.Kids.length → d < n →
  arena_Check_l1 F a0 a1 n l s x len i x.Kids (x.Kids.length : Int) (j : Int) = some (if ndL (x.Kids.take j) (x.Kids.drop j) = true then .inl (l, s, len, i) else .inr false) := by
 generalize hkk : x.Kids = kids at *
 intro d
 induction d with
 | zero =>
  intro n j h1 h2
  obtain ⟨n, rfl⟩ : ∃ m, n = m + 1 := ⟨n - 1, by omega⟩
  rw [arena_Check_l1, if_neg (by omega), List.drop_eq_nil_of_le (by omega)]
  simp [ndL]
 | succ d ih =>
  intro n j h1 h2
  obtain ⟨n, rfl⟩ : ∃ m, n = m + 1 := ⟨n - 1, by omega⟩
  have hj : j < kids.length := by omega
  have hz : ((0 : Int)).toNat = 0 := rfl
  rw [arena_Check_l1, if_pos (by omega), if_pos (by omega), get_nat, List.getElem?_eq_getElem hj]
  simp only [Option.bind_some, hkk]
  rw [if_pos (by omega), Int.toNat_natCast, hz, List.drop_zero, contains_eq F _ _ (by rw [List.length_take]; omega) (by rw [List.length_take]; omega)]
  simp only [Option.bind_some]
  have hd := List.drop_eq_getElem_cons hj
  have ht : kids.take j ++ [kids[j]] = kids.take (j + 1) := by rw [List.take_succ_eq_append_getElem hj]
  by_cases h : kids[j] ∈ kids.take j
  ·have hv : ndL (kids.take j) (kids.drop j) = false := by rw [hd, ndL, decide_eq_true h]; rfl
   rw [if_pos (by simpa using h)]; simp [hv]
  ·have hv : ndL (kids.take j) (kids.drop j) = ndL (kids.take (j + 1)) (kids.drop (j + 1)) := by rw [hd, ndL, decide_eq_false h, ht]; rfl
   rw [if_neg (by simpa using h)]
   have hw : w64 ((j : Int) + 1) = ((j + 1 : Nat) : Int) := by rw [w64_eq (by omega) (by omega)]; omega
   rw [hw, ih n (j + 1) (by omega) (by omega)]
   simp only [hv]
def chkL (l : List api_Node) : List api_Node → Nat → Nat → Option Nat
 | [], _, s => some s
 | x :: xs, i, s => if liesB l i x = true ∧ (i = 0 ∨ (0 ≤ x.Up ∧ x.Up < i)) ∧ ndL [] x.Kids = true then chkL l xs (i + 1) (s + x.Kids.length) else none
theorem check_l0 (F : Nat) (a0 : arena_Tree) (a1 : Int) (l : List api_Node) (hs : Small l) (hF : ∀ x ∈ l, x.Kids.length < F) : ∀ (d n i s : Nat), i + d = l.length → d < n → s ≤ i * 1000000 →
  arena_Check_l0 F a0 a1 n l (s : Int) (l.length : Int) (i : Int) = some (match chkL l (l.drop i) i s with | some r => .inl (l, (r : Int)) | none => .inr false) := by
 intro d
 induction d with
 | zero =>
  intro n i s h1 h2 h3
  obtain ⟨n, rfl⟩ : ∃ m, n = m + 1 := ⟨n - 1, by omega⟩
  rw [arena_Check_l0, if_neg (by omega), List.drop_eq_nil_of_le (by omega)]
  rfl
 | succ d ih =>
  intro n i s h1 h2 h3
  obtain ⟨n, rfl⟩ : ∃ m, n = m + 1 := ⟨n - 1, by omega⟩
  have hi : i < l.length := by omega
  have hn := hs.n
  have hk := hs.k _ (List.getElem_mem hi)
  have hf := hF _ (List.getElem_mem hi)
  rw [arena_Check_l0, if_pos (by omega), if_pos (by omega), get_nat, List.getElem?_eq_getElem hi, lies_eq F ⟨⟨l⟩⟩ i hs hi hF, List.drop_eq_getElem_cons hi]
  simp only [Option.bind_some, chkL]
  generalize l[i] = x at *
  have hw : w64 ((s : Int) + (x.Kids.length : Int)) = ((s + x.Kids.length : Nat) : Int) := by rw [w64_eq (by omega) (by omega)]; omega
  have hw2 : w64 ((i : Int) + 1) = ((i + 1 : Nat) : Int) := by rw [w64_eq (by omega) (by omega)]; omega
  have main : (i = 0 ∨ (0 ≤ x.Up ∧ x.Up < i)) → liesB l i x = true → ((arena_Check_l1 F a0 a1 F l (w64 ((s : Int) + (x.Kids.length : Int))) x (l.length : Int) (i : Int) x.Kids (x.Kids.length : Int) 0).bind fun o => match o with
      | .inl (x8839, x8843, x8844, x8845) => arena_Check_l0 F a0 a1 n x8839 x8843 x8844 (w64 (x8845 + 1))
      | .inr y => some (.inr y)) = some (match (if liesB l i x = true ∧ (i = 0 ∨ (0 ≤ x.Up ∧ x.Up < i)) ∧ ndL [] x.Kids = true then chkL l (l.drop (i + 1)) (i + 1) (s + x.Kids.length) else none) with | some r => .inl (l, (r : Int)) | none => .inr false) := by
   intro hu hl
   have h4 := check_l1 F a0 a1 l (w64 ((s : Int) + (x.Kids.length : Int))) x (l.length : Int) (i : Int) hk hf x.Kids.length F 0 (by omega) hf
   rw [show ((0 : Nat) : Int) = 0 from rfl, List.take_zero, List.drop_zero] at h4
   rw [h4]
   by_cases h5 : ndL [] x.Kids = true
   ·rw [if_pos h5, if_pos ⟨hl, hu, h5⟩]
    simp only [Option.bind_some]
    rw [hw, hw2, ih n (i + 1) _ (by omega) (by omega) (by rw [Nat.add_mul]; omega)]
   ·rw [if_neg h5, if_neg (fun q => h5 q.2.2)]
    rfl
  by_cases hl : liesB l i x = true
  ·rw [if_pos hl]
   by_cases hi0 : (0 : Int) < i
   ·rw [if_pos hi0]
    by_cases hu1 : x.Up < 0
    ·rw [if_pos hu1, if_neg (fun q => by rcases q.2.1 with q | q <;> omega)]; rfl
    ·rw [if_neg hu1]
     by_cases hu2 : (i : Int) ≤ x.Up
     ·rw [if_pos hu2, if_neg (fun q => by rcases q.2.1 with q | q <;> omega)]; rfl
     ·rw [if_neg hu2]
      simp only [Option.bind_some]
      exact main (.inr ⟨by omega, by omega⟩) hl
   ·rw [if_neg hi0]
    simp only [Option.bind_some]
    exact main (.inl (by omega)) hl
  ·rw [if_neg hl, if_neg (fun q => hl q.1)]; rfl
def checkB (l : List api_Node) (n : Int) : Bool := match l with
 | [] => false
 | x :: _ => decide (x.Kind = 1 ∧ x.From = 0 ∧ x.To = n ∧ x.Up = -1) && decide (chkL l l 0 0 = some (l.length - 1))
theorem chkL_some {l : List api_Node} : ∀ (xs : List api_Node) (i s r : Nat), (∀ x ∈ xs, x.Kids.length ≤ 1000000) → chkL l xs i s = some r → r ≤ s + xs.length * 1000000 := by
 intro xs
 induction xs with
 | nil => intro i s r _ h; simp only [chkL, Option.some.injEq] at h; omega
 | cons x xs ih =>
  intro i s r hb h
  simp only [chkL] at h
  split at h
  ·have := ih _ _ _ (fun y hy => hb y (List.mem_cons_of_mem _ hy)) h
   have := hb x List.mem_cons_self
   rw [List.length_cons, Nat.add_mul]; omega
  ·cases h
theorem check_eq (F : Nat) (t : arena_Tree) (n : Int) (hs : Small t.Nodes) (hl : t.Nodes.length < F) (hF : ∀ x ∈ t.Nodes, x.Kids.length < F) : arena_Check F t n = some (checkB t.Nodes n) := by
 unfold arena_Check
 cases hN : t.Nodes with
 | nil => simp [checkB]
 | cons x xs =>
  have hn := hs.n
  have h0 : 0 < t.Nodes.length := by rw [hN]; simp
  have hz : ((0 : Int)).toNat = 0 := rfl
  have hx : t.Nodes[0]? = some x := by rw [hN]; rfl
  rw [← hN, if_neg (by omega), own_eq F t hs hl]
  simp only [Option.bind_some]
  rw [if_pos (by omega), hz, hx]
  simp only [Option.bind_some]
  have h4 := check_l0 F t n t.Nodes hs hF t.Nodes.length F 0 0 (by omega) hl (by omega)
  rw [show ((0 : Nat) : Int) = 0 from rfl, List.drop_zero] at h4
  rw [h4]
  have hcb : checkB t.Nodes n = (decide (x.Kind = 1 ∧ x.From = 0 ∧ x.To = n ∧ x.Up = -1) && decide (chkL t.Nodes t.Nodes 0 0 = some (t.Nodes.length - 1))) := by
   conv => lhs; rw [hN]
   simp only [checkB, ← hN]
  rw [hcb]
  by_cases c1 : x.Kind = 1
  ·rw [if_pos c1]
   by_cases c2 : x.From = 0
   ·rw [if_pos c2]
    by_cases c3 : x.To = n
    ·rw [if_pos c3]
     by_cases c4 : x.Up = -1
     ·rw [if_pos c4]
      have hw : w64 ((t.Nodes.length : Int) - 1) = ((t.Nodes.length - 1 : Nat) : Int) := by rw [w64_eq (by omega) (by omega)]; omega
      simp only [c1, c2, c3, c4, and_self, decide_true, Bool.true_and]
      cases hc : chkL t.Nodes t.Nodes 0 0 with
      | none => simp
      | some r =>
       simp only [Option.bind_some, hw, Option.some.injEq]
       by_cases hr : r = t.Nodes.length - 1
       ·simp [hr]
       ·rw [if_neg (by omega)]; simp [hr]
     ·rw [if_neg c4]; simp [c4]
    ·rw [if_neg c3]; simp [c3]
   ·rw [if_neg c2]; simp [c2]
  ·rw [if_neg c1]; simp [c1]
end Go.Proofs.Ytahcngeimlkcgaa.M
