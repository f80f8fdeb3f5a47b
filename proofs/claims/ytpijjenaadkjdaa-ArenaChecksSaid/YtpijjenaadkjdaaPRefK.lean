/- The document's trees, plainly: copies, reach, Grow, Add, Same; and that the program's are the same. -/
import Derived.Test.YtpijjenaadkjdaaPA
import Derived.Test.YtpijjenaadkjdaaMK1
namespace Go.Proofs.Ytpijjenaadkjdaa.M
open Go Am Sy
set_option linter.unusedVariables false
set_option linter.unusedSimpArgs false

theorem copied_l0 (F : Nat) (a0 : correctorref10_Tree) (hs : Small a0.Nodes) : ∀ (d n i : Nat), i + d = a0.Nodes.length → d < n → correctorref10_copied_l0 F a0 n (a0.Nodes.take i) (i : Int) = some a0.Nodes := by
  intro d
  induction d with
  | zero =>
    intro n i h1 h2
    obtain ⟨n, rfl⟩ : ∃ m, n = m + 1 := ⟨n - 1, by omega⟩
    rw [correctorref10_copied_l0, if_neg (by omega), List.take_of_length_le (by omega)]
  | succ d ih =>
    intro n i h1 h2
    obtain ⟨n, rfl⟩ : ∃ m, n = m + 1 := ⟨n - 1, by omega⟩
    have hi : i < a0.Nodes.length := by omega
    have hn := hs.n
    have hk := hs.k _ (List.getElem_mem hi)
    rw [correctorref10_copied_l0, if_pos (by omega), if_pos (by omega), get_nat, List.getElem?_eq_getElem hi]
    simp only [Option.bind_some, List.nil_append, List.length_nil, Nat.zero_add]
    rw [if_pos (by omega), if_pos (by rw [List.length_take, List.length_singleton]; omega)]
    have hw : w64 ((i : Int) + 1) = ((i + 1 : Nat) : Int) := by rw [w64_eq (by omega) (by omega)]; omega
    have ht : a0.Nodes.take i ++ [(⟨a0.Nodes[i].Kind, a0.Nodes[i].From, a0.Nodes[i].To, a0.Nodes[i].Up, a0.Nodes[i].Kids, a0.Nodes[i].Key⟩ : api_Node)] = a0.Nodes.take (i + 1) := by rw [List.take_succ_eq_append_getElem hi]
    rw [hw, ht]
    exact ih n (i + 1) (by omega) (by omega)
theorem copied_eq (F : Nat) (t : correctorref10_Tree) (hs : Small t.Nodes) (hF : t.Nodes.length < F) : correctorref10_copied F t = some t.Nodes := by
  unfold correctorref10_copied
  have := copied_l0 F t hs t.Nodes.length F 0 (by omega) hF
  rw [show ((0 : Nat) : Int) = 0 from rfl, List.take_zero] at this
  rw [this]; rfl
/-- Each node's own one stands ahead of it. -/
def Ups (l : List api_Node) : Prop := ∀ (i : Nat) (x : api_Node), l[i]? = some x → x.Up < (i : Int)
theorem Ups.set {l : List api_Node} (h : Ups l) {i : Nat} {x y : api_Node} (hx : l[i]? = some x) (hy : y.Up = x.Up) : Ups (l.set i y) := by
  intro j z hz
  rw [List.getElem?_set] at hz
  split at hz
  · rename_i e
    split at hz
    · simp only [Option.some.injEq] at hz
      subst hz; subst e
      rw [hy]; exact h i x hx
    · cases hz
  · exact h j z hz
theorem reach_l0 (F : Nat) (a0 : List api_Node) (a1 to : Int) : ∀ (k n : Nat) (l : List api_Node) (i : Int), Ups l → i < l.length → i < k → k < n → correctorref10_reach_l0 F a0 a1 to n l i = some (growL k l i to) := by
  intro k
  induction k with
  | zero =>
    intro n l i hu hl hk hn
    obtain ⟨n, rfl⟩ : ∃ m, n = m + 1 := ⟨n - 1, by omega⟩
    rw [correctorref10_reach_l0, if_neg (by omega)]; rfl
  | succ k ih =>
    intro n l i hu hl hk hn
    obtain ⟨n, rfl⟩ : ∃ m, n = m + 1 := ⟨n - 1, by omega⟩
    rw [correctorref10_reach_l0]
    simp only [growL]
    by_cases h0 : 0 ≤ i
    · have hil : i.toNat < l.length := by omega
      have hx := hu i.toNat _ (List.getElem?_eq_getElem hil)
      rw [if_pos h0, if_pos h0, if_pos ⟨h0, hl⟩, List.getElem?_eq_getElem hil]
      simp only [Option.bind_some]
      rw [if_pos ⟨h0, hl⟩, if_pos (by rw [List.length_set]; exact ⟨h0, hl⟩), List.getElem?_set_self hil]
      simp only [Option.bind_some]
      exact ih n _ _ (hu.set (List.getElem?_eq_getElem hil) rfl) (by rw [List.length_set]; omega) (by omega) (by omega)
    · rw [if_neg h0, if_neg h0]
theorem reach_eq (F : Nat) (l : List api_Node) (i to : Int) (k : Nat) (hu : Ups l) (hl : i < l.length) (hk : l.length ≤ k) (hF : k < F) : correctorref10_reach F l i to = some (growL k l i to) := by
  unfold correctorref10_reach
  rw [reach_l0 F l i to k F l i hu hl (by omega) hF]; rfl
/-- What does not change when nodes reach further. -/
def Shape (l l' : List api_Node) : Prop := l'.length = l.length ∧ ∀ (i : Nat) (x' : api_Node), l'[i]? = some x' → ∃ x, l[i]? = some x ∧ x'.Up = x.Up ∧ x'.Kids = x.Kids ∧ x'.Kind = x.Kind ∧ x'.From = x.From ∧ x'.Key = x.Key
theorem Shape.refl (l : List api_Node) : Shape l l := ⟨rfl, fun i x h => ⟨x, h, rfl, rfl, rfl, rfl, rfl⟩⟩
theorem Shape.trans {a b c : List api_Node} (h : Shape a b) (k : Shape b c) : Shape a c := by
  refine ⟨k.1.trans h.1, fun i x hx => ?_⟩
  obtain ⟨y, h1, h2, h3, h4, h5, h6⟩ := k.2 i x hx
  obtain ⟨z, k1, k2, k3, k4, k5, k6⟩ := h.2 i y h1
  exact ⟨z, k1, h2.trans k2, h3.trans k3, h4.trans k4, h5.trans k5, h6.trans k6⟩
theorem Shape.toMax {l : List api_Node} {i : Nat} {x : api_Node} (hx : l[i]? = some x) (to : Int) : Shape l (l.set i (toMax x to)) := by
  refine ⟨List.length_set, fun j z hz => ?_⟩
  rw [List.getElem?_set] at hz
  split at hz
  · rename_i e
    split at hz
    · simp only [Option.some.injEq] at hz
      subst hz; subst e
      exact ⟨x, hx, rfl, rfl, rfl, rfl, rfl⟩
    · cases hz
  · exact ⟨z, hz, rfl, rfl, rfl, rfl, rfl⟩
theorem growL_shape : ∀ (k : Nat) (l : List api_Node) (i to : Int), Shape l (growL k l i to) := by
  intro k
  induction k with
  | zero => intro l i to; exact Shape.refl l
  | succ k ih =>
    intro l i to
    simp only [growL]
    split
    · split
      · rename_i x hx
        exact (Shape.toMax hx to).trans (ih _ _ _)
      · exact Shape.refl l
    · exact Shape.refl l
theorem imax_eq (a b : Int) : imax a b = max a b := by
  unfold imax; split <;> omega
theorem growL_root : ∀ (k : Nat) (l : List api_Node) (i to : Int) (x : api_Node), l[0]? = some x → to ≤ x.To → ∃ y, (growL k l i to)[0]? = some y ∧ y.To = x.To := by
  intro k
  induction k with
  | zero => intro l i to x hx _; exact ⟨x, hx, rfl⟩
  | succ k ih =>
    intro l i to x hx hto
    simp only [growL]
    split
    · split
      · rename_i y hy
        by_cases e : i.toNat = 0
        · rw [e] at hy ⊢
          rw [hx] at hy
          simp only [Option.some.injEq] at hy
          subst hy
          have hl : 0 < l.length := by
            rcases Nat.eq_zero_or_pos l.length with q | q
            · rw [List.getElem?_eq_none (by omega)] at hx; cases hx
            · exact q
          obtain ⟨y, q1, q2⟩ := ih (l.set 0 (toMax x to)) x.Up to (toMax x to) (List.getElem?_set_self hl) (by simp only [toMax, imax_eq]; omega)
          refine ⟨y, q1, q2.trans ?_⟩
          simp only [toMax, imax_eq]; omega
        · obtain ⟨z, q1, q2⟩ := ih (l.set i.toNat (toMax y to)) y.Up to x (by rw [List.getElem?_set_ne e]; exact hx) hto
          exact ⟨z, q1, q2⟩
      · exact ⟨x, hx, rfl⟩
    · exact ⟨x, hx, rfl⟩
/-- Trees as they come out of the document's calls. -/
structure Tree (l : List api_Node) (n : Int) : Prop where
  pos : 0 < l.length
  len : l.length ≤ 1000
  root : ∃ x, l[0]? = some x ∧ x.To = n
  up : Ups l
  kids : ∀ x ∈ l, ∀ k ∈ x.Kids, 0 ≤ k ∧ k < l.length
  few : ∀ x ∈ l, x.Kids.length ≤ l.length
theorem Tree.small {l : List api_Node} {n : Int} (h : Tree l n) : Small l := ⟨by have := h.len; omega, fun x hx => by have := h.few x hx; have := h.len; omega⟩
theorem Tree.shape {l l' : List api_Node} {n : Int} (h : Tree l n) (hs : Shape l l') (hr : ∃ y, l'[0]? = some y ∧ y.To = n) : Tree l' n where
  pos := by rw [hs.1]; exact h.pos
  len := by rw [hs.1]; exact h.len
  root := hr
  up i x hx := by obtain ⟨y, h1, h2, _⟩ := hs.2 i x hx; rw [h2]; exact h.up i y h1
  kids x hx k hk := by
    obtain ⟨i, hi⟩ := List.getElem?_of_mem hx
    obtain ⟨y, h1, _, h3, _⟩ := hs.2 i x hi
    rw [hs.1]; exact h.kids y (List.mem_of_getElem? h1) k (by rw [← h3]; exact hk)
  few x hx := by
    obtain ⟨i, hi⟩ := List.getElem?_of_mem hx
    obtain ⟨y, h1, _, h3, _⟩ := hs.2 i x hi
    rw [hs.1, h3]; exact h.few y (List.mem_of_getElem? h1)
theorem Tree.new (n : Int) : Tree [⟨1, 0, n, -1, [], false⟩] n where
  pos := by simp
  len := by simp
  root := ⟨_, rfl, rfl⟩
  up i x hx := by
    cases i with
    | zero => simp at hx; subst hx; simp
    | succ i => simp at hx
  kids x hx k hk := by simp at hx; subst hx; cases hk
  few x hx := by simp at hx; subst hx; simp
theorem Tree.grow {l : List api_Node} {n : Int} (h : Tree l n) (k : Nat) (i to : Int) (ht : to ≤ n) : Tree (growL k l i to) n := by
  obtain ⟨x, h1, h2⟩ := h.root
  refine h.shape (growL_shape k l i to) ?_
  obtain ⟨y, q1, q2⟩ := growL_root k l i to x h1 (by omega)
  exact ⟨y, q1, q2.trans h2⟩
theorem Tree.put {l : List api_Node} {n : Int} (h : Tree l n) (hl : l.length < 1000) {up kind frm to : Int} {x : api_Node} (h0 : 0 ≤ up) (hx : l[up.toNat]? = some x) : Tree ((l ++ [(⟨kind, frm, to, up, [], false⟩ : api_Node)]).set up.toNat { x with Kids := x.Kids ++ [(l.length : Int)] }) n := by
  have hu : up.toNat < l.length := by
    rcases Nat.lt_or_ge up.toNat l.length with q | q
    · exact q
    · rw [List.getElem?_eq_none q] at hx; cases hx
  have hxm := List.mem_of_getElem? hx
  have hat : ∀ (i : Nat) (y : api_Node), ((l ++ [(⟨kind, frm, to, up, [], false⟩ : api_Node)]).set up.toNat { x with Kids := x.Kids ++ [(l.length : Int)] })[i]? = some y → (y.Up < (i : Int)) ∧ (∀ k ∈ y.Kids, 0 ≤ k ∧ k < ((l.length + 1 : Nat) : Int)) ∧ y.Kids.length ≤ l.length + 1 := by
    intro i y hy
    rw [List.getElem?_set] at hy
    split at hy
    · rename_i e
      split at hy
      · simp only [Option.some.injEq] at hy
        subst hy; subst e
        refine ⟨h.up _ x hx, fun k hk => ?_, ?_⟩
        · rcases List.mem_append.1 hk with hk | hk
          · have := h.kids x hxm k hk; omega
          · simp at hk; omega
        · have := h.few x hxm
          show (x.Kids ++ [(l.length : Int)]).length ≤ _
          rw [List.length_append, List.length_singleton]; omega
      · cases hy
    · rcases Nat.lt_or_ge i l.length with q | q
      · rw [List.getElem?_append_left q] at hy
        have hm := List.mem_of_getElem? hy
        exact ⟨h.up i y hy, fun k hk => by have := h.kids y hm k hk; omega, by have := h.few y hm; omega⟩
      · rw [List.getElem?_append_right q] at hy
        have hz : i - l.length = 0 := by
          rcases Nat.eq_zero_or_pos (i - l.length) with z | z
          · exact z
          · rw [List.getElem?_eq_none (by rw [List.length_singleton]; omega)] at hy; cases hy
        rw [hz] at hy
        simp at hy
        subst hy
        refine ⟨by show up < _; omega, fun k hk => (by cases hk), by simp⟩
  refine ⟨by simp, by simp; omega, ?_, fun i y hy => (hat i y hy).1, fun y hy k hk => ?_, fun y hy => ?_⟩
  · obtain ⟨r, h1, h2⟩ := h.root
    by_cases e : up.toNat = 0
    · rw [e] at hx ⊢
      rw [hx] at h1
      simp only [Option.some.injEq] at h1
      subst h1
      refine ⟨_, List.getElem?_set_self (by simp), h2⟩
    · refine ⟨r, ?_, h2⟩
      rw [List.getElem?_set_ne e, List.getElem?_append_left (by omega)]; exact h1
  · obtain ⟨i, hi⟩ := List.getElem?_of_mem hy
    simpa using (hat i y hi).2.1 k hk
  · obtain ⟨i, hi⟩ := List.getElem?_of_mem hy
    simpa using (hat i y hi).2.2
theorem Tree.add {l : List api_Node} {n : Int} (h : Tree l n) (hl : l.length < 1000) {up kind frm to : Int} (hm : mayAdd l up kind frm to) : Tree (addL l up kind frm to) n ∧ (addL l up kind frm to).length = l.length + 1 := by
  obtain ⟨h0, h1, _, _, _, ⟨r, h5, h6⟩, _⟩ := hm
  have hu : up.toNat < l.length := by omega
  unfold addL
  rw [List.getElem?_eq_getElem hu]
  simp only
  obtain ⟨r', q1, q2⟩ := h.root
  rw [q1] at h5; simp only [Option.some.injEq] at h5; subst h5
  refine ⟨(h.put hl h0 (List.getElem?_eq_getElem hu)).grow _ _ _ (by omega), ?_⟩
  rw [growL_length]; simp
theorem radd_no (F : Nat) (l : List api_Node) (n up kind frm to : Int) (h : Tree l n) (hF : l.length < F) (hno : ¬ mayAdd l up kind frm to) : correctorref10_Add F ⟨l⟩ up kind frm to = some (⟨l⟩, -1) := by
  unfold correctorref10_Add
  by_cases h1 : up < 0
  · rw [if_pos h1]
  rw [if_neg h1]
  by_cases h2 : (l.length : Int) ≤ up
  · rw [if_pos h2]
  rw [if_neg h2]
  by_cases h3 : kind < 1
  · rw [if_pos h3]
  rw [if_neg h3]
  by_cases h4 : 11 < kind
  · rw [if_pos h4]
  rw [if_neg h4]
  by_cases h5 : to < frm
  · rw [if_pos h5]
  rw [if_neg h5]
  obtain ⟨r, q1, q2⟩ := h.root
  have hz : ((0 : Int)).toNat = 0 := rfl
  have hp := h.pos
  have hlen := h.len
  rw [if_pos (by show 0 ≤ (0 : Int) ∧ (0 : Int) < (l.length : Int); omega), hz]
  simp only [q1, Option.bind_some]
  by_cases h6 : r.To < to
  · rw [if_pos h6]
  rw [if_neg h6, if_pos (by show 0 ≤ up ∧ up < (l.length : Int); omega)]
  have hu : up.toNat < l.length := by omega
  rw [List.getElem?_eq_getElem hu]
  simp only [Option.bind_some]
  have hend : endOf l up.toNat = some (match l[up.toNat].Kids.getLast? with
    | none => l[up.toNat].From
    | some k => if 0 ≤ k then (match l[k.toNat]? with | some y => imax l[up.toNat].From y.To | none => l[up.toNat].From) else l[up.toNat].From) := by
    unfold endOf; rw [List.getElem?_eq_getElem hu]; rfl
  have hxm : l[up.toNat] ∈ l := List.getElem_mem hu
  have hk := h.kids _ hxm
  have hf := h.few _ hxm
  have hmay : ∀ e, endOf l up.toNat = some e → frm < e := by
    intro e he
    rcases (by omega : frm < e ∨ e ≤ frm) with q | q
    · exact q
    · exact absurd ⟨by omega, by omega, by omega, by omega, by omega, ⟨r, q1, by omega⟩, ⟨e, he, q⟩⟩ hno
  have he := hmay _ hend
  generalize l[up.toNat] = x at *
  by_cases h7 : frm < x.From
  · rw [if_pos h7]; rfl
  rw [if_neg h7]
  by_cases h8 : (0 : Int) < x.Kids.length
  · rw [if_pos h8]
    have hw : w64 ((x.Kids.length : Int) - 1) = ((x.Kids.length - 1 : Nat) : Int) := by rw [w64_eq (by omega) (by omega)]; omega
    have hl : x.Kids.length - 1 < x.Kids.length := by omega
    have hlast : x.Kids.getLast? = some x.Kids[x.Kids.length - 1] := by rw [List.getLast?_eq_getElem?, List.getElem?_eq_getElem hl]
    have hkr := hk _ (List.getElem_mem hl)
    rw [hw, if_pos (by omega), get_nat, List.getElem?_eq_getElem hl]
    rw [hlast] at he
    simp only [Option.bind_some]
    generalize x.Kids[x.Kids.length - 1] = k at *
    have hkl : k.toNat < l.length := by omega
    rw [if_pos (by show 0 ≤ k ∧ k < (l.length : Int); exact hkr), List.getElem?_eq_getElem hkl]
    simp only [Option.bind_some]
    simp only [if_pos hkr.1, List.getElem?_eq_getElem hkl, imax_eq] at he
    rw [if_pos (by omega)]; rfl
  · have : x.Kids = [] := List.eq_nil_of_length_eq_zero (by omega)
    rw [this] at he
    simp only [List.getLast?_nil] at he
    omega
theorem radd_yes (F : Nat) (l : List api_Node) (n up kind frm to : Int) (h : Tree l n) (hl : l.length < 1000) (hF : l.length + 1 < F) (hyes : mayAdd l up kind frm to) : correctorref10_Add F ⟨l⟩ up kind frm to = some (⟨addL l up kind frm to⟩, (l.length : Int)) := by
  obtain ⟨h0, h1, h2, h3, h4, ⟨r, h5, h6⟩, ⟨e, h7, h8⟩⟩ := id hyes
  have hz : ((0 : Int)).toNat = 0 := rfl
  have hp := h.pos
  have hlen := h.len
  have hu : up.toNat < l.length := by omega
  unfold correctorref10_Add
  rw [if_neg (by omega), if_neg (by show ¬ (l.length : Int) ≤ up; omega), if_neg (by omega), if_neg (by omega), if_neg (by omega), if_pos (by show 0 ≤ (0 : Int) ∧ (0 : Int) < (l.length : Int); omega), hz]
  simp only [h5, Option.bind_some]
  rw [if_neg (by omega), if_pos (by show 0 ≤ up ∧ up < (l.length : Int); omega), List.getElem?_eq_getElem hu]
  simp only [Option.bind_some]
  have hend : endOf l up.toNat = some (match l[up.toNat].Kids.getLast? with
    | none => l[up.toNat].From
    | some k => if 0 ≤ k then (match l[k.toNat]? with | some y => imax l[up.toNat].From y.To | none => l[up.toNat].From) else l[up.toNat].From) := by
    unfold endOf; rw [List.getElem?_eq_getElem hu]; rfl
  rw [hend] at h7
  simp only [Option.some.injEq] at h7
  have hxm : l[up.toNat] ∈ l := List.getElem_mem hu
  have hk := h.kids _ hxm
  have hf := h.few _ hxm
  have key : (if frm < l[up.toNat].From then
                      some (.inr (⟨l⟩, (-1)))
                    else
                      if (0 : Int) < (l[up.toNat].Kids.length : Int) then
                        if 0 ≤ (w64 ((l[up.toNat].Kids.length : Int) - 1)) ∧ (w64 ((l[up.toNat].Kids.length : Int) - 1)) < (l[up.toNat].Kids.length : Int) then
                          (l[up.toNat].Kids[(w64 ((l[up.toNat].Kids.length : Int) - 1)).toNat]?).bind fun x4258 =>
                          if 0 ≤ x4258 ∧ x4258 < (l.length : Int) then
                            (l[x4258.toNat]?).bind fun x4265 =>
                            if frm < x4265.To then
                              some (.inr (⟨l⟩, (-1)))
                            else
                              some (.inl ())
                          else none
                        else none
                      else
                        some (.inl ())) = (some (.inl ()) : Option (Sum Unit (correctorref10_Tree × Int))) := by
    generalize l[up.toNat] = x at *
    by_cases h8 : (0 : Int) < x.Kids.length
    · have hw : w64 ((x.Kids.length : Int) - 1) = ((x.Kids.length - 1 : Nat) : Int) := by rw [w64_eq (by omega) (by omega)]; omega
      have hl : x.Kids.length - 1 < x.Kids.length := by omega
      have hlast : x.Kids.getLast? = some x.Kids[x.Kids.length - 1] := by rw [List.getLast?_eq_getElem?, List.getElem?_eq_getElem hl]
      have hkr := hk _ (List.getElem_mem hl)
      rw [hlast] at h7
      rw [hw]
      simp only [get_nat, List.getElem?_eq_getElem hl, Option.bind_some]
      generalize x.Kids[x.Kids.length - 1] = k at *
      have hkl : k.toNat < l.length := by omega
      simp only [if_pos hkr.1, List.getElem?_eq_getElem hkl, imax_eq] at h7
      simp only [List.getElem?_eq_getElem hkl, Option.bind_some]
      rw [if_neg (by omega), if_pos h8, if_pos (by omega), if_pos hkr, if_neg (by omega)]
    · have : x.Kids = [] := List.eq_nil_of_length_eq_zero (by omega)
      rw [this] at h7
      simp only [List.getLast?_nil] at h7
      rw [if_neg (by omega), if_neg h8]
  simp only [key, Option.bind_some]
  rw [copied_eq F ⟨l⟩ h.small (by show l.length < F; omega)]
  simp only [Option.bind_some]
  have hgu : (l ++ [(⟨kind, frm, to, up, [], false⟩ : api_Node)])[up.toNat]? = some l[up.toNat] := by
    rw [List.getElem?_append_left hu, List.getElem?_eq_getElem hu]
  have hl1 : (l ++ [(⟨kind, frm, to, up, [], false⟩ : api_Node)]).length = l.length + 1 := by simp
  rw [if_pos (by rw [List.length_singleton]; omega), if_pos (by rw [hl1]; omega), hgu]
  simp only [Option.bind_some]
  rw [if_pos (by rw [List.length_singleton]; omega), if_pos (by rw [hl1]; omega)]
  have ht := h.put (kind := kind) (frm := frm) (to := to) hl h0 (List.getElem?_eq_getElem hu)
  have hlp : ((l ++ [(⟨kind, frm, to, up, [], false⟩ : api_Node)]).set up.toNat ⟨l[up.toNat].Kind, l[up.toNat].From, l[up.toNat].To, l[up.toNat].Up, l[up.toNat].Kids ++ [(l.length : Int)], l[up.toNat].Key⟩).length = l.length + 1 := by rw [List.length_set, hl1]
  rw [reach_eq F _ up to (l.length + 1) ht.up (by rw [hlp]; omega) (by rw [hlp]; exact Nat.le_refl _) (by omega)]
  unfold addL
  rw [List.getElem?_eq_getElem hu]
  rfl
theorem eqs_l1 (F : Nat) (a0 a1 : correctorref10_Tree) (i : Int) (x : api_Node) (hl : x.Kids.length ≤ 1000000) : ∀ (d n j : Nat), j + d = x.Kids.length → d < n → correctorref10_Same_l1 F a0 a1 n i x x (j : Int) = some (.inl i) := by
  intro d
  induction d with
  | zero =>
    intro n j h1 h2
    obtain ⟨n, rfl⟩ : ∃ m, n = m + 1 := ⟨n - 1, by omega⟩
    rw [correctorref10_Same_l1, if_neg (by omega)]
  | succ d ih =>
    intro n j h1 h2
    obtain ⟨n, rfl⟩ : ∃ m, n = m + 1 := ⟨n - 1, by omega⟩
    have hi : j < x.Kids.length := by omega
    rw [correctorref10_Same_l1, if_pos (by omega), if_pos (by omega), get_nat, List.getElem?_eq_getElem hi]
    simp only [Option.bind_some]
    rw [if_pos (by omega)]
    simp only [if_true]
    have hw : w64 ((j : Int) + 1) = ((j + 1 : Nat) : Int) := by rw [w64_eq (by omega) (by omega)]; omega
    rw [hw]
    exact ih n (j + 1) (by omega) (by omega)
theorem eqs_l0 (F : Nat) (l : List api_Node) (hs : Small l) (hF : ∀ x ∈ l, x.Kids.length < F) : ∀ (d n i : Nat), i + d = l.length → d < n → correctorref10_Same_l0 F ⟨l⟩ ⟨l⟩ n (i : Int) = some (.inl ()) := by
  intro d
  induction d with
  | zero =>
    intro n i h1 h2
    obtain ⟨n, rfl⟩ : ∃ m, n = m + 1 := ⟨n - 1, by omega⟩
    rw [correctorref10_Same_l0, if_neg (by show ¬ (i : Int) < (l.length : Int); omega)]
  | succ d ih =>
    intro n i h1 h2
    obtain ⟨n, rfl⟩ : ∃ m, n = m + 1 := ⟨n - 1, by omega⟩
    have hi : i < l.length := by omega
    have hn := hs.n
    rw [correctorref10_Same_l0, if_pos (by show (i : Int) < (l.length : Int); omega), if_pos (by show 0 ≤ (i : Int) ∧ (i : Int) < (l.length : Int); omega), get_nat, List.getElem?_eq_getElem hi]
    simp only [Option.bind_some]
    rw [if_pos (by omega)]
    have hk := hs.k _ (List.getElem_mem hi)
    have hf := hF _ (List.getElem_mem hi)
    have h3 := eqs_l1 F ⟨l⟩ ⟨l⟩ (i : Int) l[i] hk l[i].Kids.length F 0 (by omega) hf
    rw [show ((0 : Nat) : Int) = 0 from rfl] at h3
    have hw : w64 ((i : Int) + 1) = ((i + 1 : Nat) : Int) := by rw [w64_eq (by omega) (by omega)]; omega
    simp only [if_true, ite_self, Option.bind_some, h3, hw]
    split <;> simp only [Option.bind_some, h3, hw] <;> exact ih n (i + 1) (by omega) (by omega)
theorem rsame_refl (F : Nat) (l : List api_Node) (hs : Small l) (hF : ∀ x ∈ l, x.Kids.length < F) (hl : l.length < F) : correctorref10_Same F ⟨l⟩ ⟨l⟩ = some true := by
  unfold correctorref10_Same
  rw [if_pos rfl]
  have := eqs_l0 F l hs hF l.length F 0 (by omega) hl
  rw [show ((0 : Nat) : Int) = 0 from rfl] at this
  rw [this]; rfl
end Go.Proofs.Ytpijjenaadkjdaa.M
