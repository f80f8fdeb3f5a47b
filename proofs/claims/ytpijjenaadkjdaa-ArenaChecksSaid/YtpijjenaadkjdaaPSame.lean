/- Whether two trees are the same: both tell it as lists do. -/
import Derived.Test.YtpijjenaadkjdaaPRefK
import Derived.Test.YtpijjenaadkjdaaPC
namespace Go.Proofs.Ytpijjenaadkjdaa.M
open Go Am Sy
set_option linter.unusedVariables false
set_option linter.unusedSimpArgs false

theorem drop_ne {α : Type} {a b : List α} {i : Nat} (hi : i < a.length) (hj : i < b.length) : (a.drop i = b.drop i) ↔ (a[i] = b[i] ∧ a.drop (i + 1) = b.drop (i + 1)) := by
  rw [List.drop_eq_getElem_cons hi, List.drop_eq_getElem_cons hj, List.cons.injEq]
theorem eqint_l0 (F : Nat) (a b : List Int) (hl : a.length ≤ 1000000) (hab : a.length = b.length) : ∀ (d n i : Nat), i + d = a.length → d < n → slices_Equal_int_l0 F a b n (i : Int) = some (if a.drop i = b.drop i then .inl () else .inr false) := by
  intro d
  induction d with
  | zero =>
    intro n i h1 h2
    obtain ⟨n, rfl⟩ : ∃ m, n = m + 1 := ⟨n - 1, by omega⟩
    rw [slices_Equal_int_l0, if_neg (by omega), List.drop_eq_nil_of_le (by omega), List.drop_eq_nil_of_le (by omega)]; rfl
  | succ d ih =>
    intro n i h1 h2
    obtain ⟨n, rfl⟩ : ∃ m, n = m + 1 := ⟨n - 1, by omega⟩
    have hi : i < a.length := by omega
    have hj : i < b.length := by omega
    have hd := drop_ne hi hj
    rw [slices_Equal_int_l0, if_pos (by omega), if_pos (by omega), get_nat, List.getElem?_eq_getElem hi]
    simp only [Option.bind_some]
    rw [if_pos (by omega), get_nat, List.getElem?_eq_getElem hj]
    simp only [Option.bind_some]
    by_cases h : a[i] = b[i]
    · rw [if_pos h]
      have hw : w64 ((i : Int) + 1) = ((i + 1 : Nat) : Int) := by rw [w64_eq (by omega) (by omega)]; omega
      rw [hw, ih n (i + 1) (by omega) (by omega)]
      by_cases h3 : a.drop (i + 1) = b.drop (i + 1)
      · rw [if_pos h3, if_pos (hd.2 ⟨h, h3⟩)]
      · rw [if_neg h3, if_neg (fun q => h3 (hd.1 q).2)]
    · rw [if_neg h, if_neg (fun q => h (hd.1 q).1)]
theorem eqint_eq (F : Nat) (a b : List Int) (hl : a.length ≤ 1000000) (hF : a.length < F) : slices_Equal_int F a b = some (decide (a = b)) := by
  unfold slices_Equal_int
  by_cases hab : a.length = b.length
  · rw [if_pos (by omega)]
    have := eqint_l0 F a b hl hab a.length F 0 (by omega) hF
    rw [show ((0 : Nat) : Int) = 0 from rfl, List.drop_zero, List.drop_zero] at this
    rw [this]
    by_cases h : a = b
    · rw [if_pos h]; simp [h]
    · rw [if_neg h]; simp [h]
  · rw [if_neg (by omega)]
    have : a ≠ b := fun q => hab (by rw [q])
    simp [this]
theorem alike_eq (F : Nat) (x y : api_Node) (hl : x.Kids.length ≤ 1000000) (hF : x.Kids.length < F) : arena_alike F x y = some (decide (x = y)) := by
  unfold arena_alike
  rw [eqint_eq F x.Kids y.Kids hl hF]
  obtain ⟨a1, a2, a3, a4, a5, a6⟩ := x
  obtain ⟨b1, b2, b3, b4, b5, b6⟩ := y
  simp only [Option.bind_some, api_Node.mk.injEq]
  by_cases c1 : a1 = b1
  case neg => rw [if_neg c1]; simp [c1]
  by_cases c2 : a2 = b2
  case neg => rw [if_pos c1, if_neg c2]; simp [c2]
  by_cases c3 : a3 = b3
  case neg => rw [if_pos c1, if_pos c2, if_neg c3]; simp [c3]
  by_cases c4 : a4 = b4
  case neg => rw [if_pos c1, if_pos c2, if_pos c3, if_neg c4]; simp [c4]
  rw [if_pos c1, if_pos c2, if_pos c3, if_pos c4]
  cases a6 <;> cases b6 <;> simp [c1, c2, c3, c4]
theorem eqf_l0 (F : Nat) (a b : List api_Node) (hs : Small a) (hF : ∀ x ∈ a, x.Kids.length < F) (hab : a.length = b.length) : ∀ (d n i : Nat), i + d = a.length → d < n → slices_EqualFunc_api_Node_l0 F a b n (i : Int) = some (if a.drop i = b.drop i then .inl () else .inr false) := by
  intro d
  induction d with
  | zero =>
    intro n i h1 h2
    obtain ⟨n, rfl⟩ : ∃ m, n = m + 1 := ⟨n - 1, by omega⟩
    rw [slices_EqualFunc_api_Node_l0, if_neg (by omega), List.drop_eq_nil_of_le (by omega), List.drop_eq_nil_of_le (by omega)]; rfl
  | succ d ih =>
    intro n i h1 h2
    obtain ⟨n, rfl⟩ : ∃ m, n = m + 1 := ⟨n - 1, by omega⟩
    have hi : i < a.length := by omega
    have hj : i < b.length := by omega
    have hn := hs.n
    have hd := drop_ne hi hj
    rw [slices_EqualFunc_api_Node_l0, if_pos (by omega), if_pos (by omega), get_nat, List.getElem?_eq_getElem hi]
    simp only [Option.bind_some]
    rw [if_pos (by omega), get_nat, List.getElem?_eq_getElem hj]
    simp only [Option.bind_some]
    unfold arena_Same_1
    rw [alike_eq F _ _ (hs.k _ (List.getElem_mem hi)) (hF _ (List.getElem_mem hi))]
    simp only [Option.bind_some, decide_eq_true_eq]
    by_cases h : a[i] = b[i]
    · rw [if_pos h]
      have hw : w64 ((i : Int) + 1) = ((i + 1 : Nat) : Int) := by rw [w64_eq (by omega) (by omega)]; omega
      rw [hw, ih n (i + 1) (by omega) (by omega)]
      by_cases h3 : a.drop (i + 1) = b.drop (i + 1)
      · rw [if_pos h3, if_pos (hd.2 ⟨h, h3⟩)]
      · rw [if_neg h3, if_neg (fun q => h3 (hd.1 q).2)]
    · rw [if_neg h, if_neg (fun q => h (hd.1 q).1)]
theorem asame_eq (F : Nat) (a b : List api_Node) (hs : Small a) (hF : ∀ x ∈ a, x.Kids.length < F) (hl : a.length < F) : arena_Same F ⟨a⟩ ⟨b⟩ = some (decide (a = b)) := by
  unfold arena_Same slices_EqualFunc_api_Node
  by_cases hab : a.length = b.length
  · rw [if_pos (by show (a.length : Int) = (b.length : Int); omega)]
    have := eqf_l0 F a b hs hF hab a.length F 0 (by omega) hl
    rw [show ((0 : Nat) : Int) = 0 from rfl, List.drop_zero, List.drop_zero] at this
    rw [this]
    by_cases h : a = b
    · rw [if_pos h]; simp [h]
    · rw [if_neg h]; simp [h]
  · rw [if_neg (by show ¬ (a.length : Int) = (b.length : Int); omega)]
    have : a ≠ b := fun q => hab (by rw [q])
    simp [this]
theorem req_l1 (F : Nat) (a0 a1 : correctorref10_Tree) (i : Int) (x y : api_Node) (hl : x.Kids.length ≤ 1000000) (hab : x.Kids.length = y.Kids.length) : ∀ (d n j : Nat), j + d = x.Kids.length → d < n → correctorref10_Same_l1 F a0 a1 n i x y (j : Int) = some (if x.Kids.drop j = y.Kids.drop j then .inl i else .inr false) := by
  intro d
  induction d with
  | zero =>
    intro n j h1 h2
    obtain ⟨n, rfl⟩ : ∃ m, n = m + 1 := ⟨n - 1, by omega⟩
    rw [correctorref10_Same_l1, if_neg (by omega), List.drop_eq_nil_of_le (by omega), List.drop_eq_nil_of_le (by omega)]; rfl
  | succ d ih =>
    intro n j h1 h2
    obtain ⟨n, rfl⟩ : ∃ m, n = m + 1 := ⟨n - 1, by omega⟩
    have hi : j < x.Kids.length := by omega
    have hj : j < y.Kids.length := by omega
    have hd := drop_ne hi hj
    rw [correctorref10_Same_l1, if_pos (by omega), if_pos (by omega), get_nat, List.getElem?_eq_getElem hi]
    simp only [Option.bind_some]
    rw [if_pos (by omega), get_nat, List.getElem?_eq_getElem hj]
    simp only [Option.bind_some]
    by_cases h : x.Kids[j] = y.Kids[j]
    · rw [if_pos h]
      have hw : w64 ((j : Int) + 1) = ((j + 1 : Nat) : Int) := by rw [w64_eq (by omega) (by omega)]; omega
      rw [hw, ih n (j + 1) (by omega) (by omega)]
      by_cases h3 : x.Kids.drop (j + 1) = y.Kids.drop (j + 1)
      · rw [if_pos h3, if_pos (hd.2 ⟨h, h3⟩)]
      · rw [if_neg h3, if_neg (fun q => h3 (hd.1 q).2)]
    · rw [if_neg h, if_neg (fun q => h (hd.1 q).1)]
theorem req_l0 (F : Nat) (a b : List api_Node) (hs : Small a) (hF : ∀ x ∈ a, x.Kids.length < F) (hab : a.length = b.length) : ∀ (d n i : Nat), i + d = a.length → d < n → correctorref10_Same_l0 F ⟨a⟩ ⟨b⟩ n (i : Int) = some (if a.drop i = b.drop i then .inl () else .inr false) := by
  intro d
  induction d with
  | zero =>
    intro n i h1 h2
    obtain ⟨n, rfl⟩ : ∃ m, n = m + 1 := ⟨n - 1, by omega⟩
    rw [correctorref10_Same_l0, if_neg (by show ¬ (i : Int) < (a.length : Int); omega), List.drop_eq_nil_of_le (by omega), List.drop_eq_nil_of_le (by omega)]; rfl
  | succ d ih =>
    intro n i h1 h2
    obtain ⟨n, rfl⟩ : ∃ m, n = m + 1 := ⟨n - 1, by omega⟩
    have hi : i < a.length := by omega
    have hj : i < b.length := by omega
    have hn := hs.n
    have hd := drop_ne hi hj
    rw [correctorref10_Same_l0, if_pos (by show (i : Int) < (a.length : Int); omega), if_pos (by show 0 ≤ (i : Int) ∧ (i : Int) < (a.length : Int); omega)]
    simp only [get_nat, List.getElem?_eq_getElem hi, List.getElem?_eq_getElem hj, Option.bind_some]
    rw [if_pos (by omega)]
    have hk := hs.k _ (List.getElem_mem hi)
    have hf := hF _ (List.getElem_mem hi)
    have hw : w64 ((i : Int) + 1) = ((i + 1 : Nat) : Int) := by rw [w64_eq (by omega) (by omega)]; omega
    have hno : a[i] ≠ b[i] → (some (.inr false) : Option (Sum Unit Bool)) = some (if a.drop i = b.drop i then .inl () else .inr false) := fun q => by rw [if_neg (fun z => q (hd.1 z).1)]
    have hyes : a[i].Kids.length = b[i].Kids.length → (a[i].Kids = b[i].Kids → a[i] = b[i]) → ((correctorref10_Same_l1 F ⟨a⟩ ⟨b⟩ F (i : Int) a[i] b[i] 0).bind fun o => match o with
              | .inl x12988 => correctorref10_Same_l0 F ⟨a⟩ ⟨b⟩ n (w64 (x12988 + 1))
              | .inr y => some (.inr y)) = some (if a.drop i = b.drop i then .inl () else .inr false) := by
      intro q1 q2
      have h3 := req_l1 F ⟨a⟩ ⟨b⟩ (i : Int) a[i] b[i] hk q1 a[i].Kids.length F 0 (by omega) hf
      rw [show ((0 : Nat) : Int) = 0 from rfl, List.drop_zero, List.drop_zero] at h3
      rw [h3]
      by_cases h4 : a[i].Kids = b[i].Kids
      · rw [if_pos h4]
        simp only [Option.bind_some]
        rw [hw, ih n (i + 1) (by omega) (by omega)]
        by_cases h5 : a.drop (i + 1) = b.drop (i + 1)
        · rw [if_pos h5, if_pos (hd.2 ⟨q2 h4, h5⟩)]
        · rw [if_neg h5, if_neg (fun q => h5 (hd.1 q).2)]
      · rw [if_neg h4]
        exact hno (fun q => h4 (by rw [q]))
    generalize a[i] = x at *
    generalize b[i] = y at *
    by_cases c1 : x.Kind = y.Kind
    case neg => rw [if_neg c1]; exact hno (fun q => c1 (by rw [q]))
    by_cases c2 : x.From = y.From
    case neg => rw [if_pos c1, if_neg c2]; exact hno (fun q => c2 (by rw [q]))
    by_cases c3 : x.To = y.To
    case neg => rw [if_pos c1, if_pos c2, if_neg c3]; exact hno (fun q => c3 (by rw [q]))
    by_cases c4 : x.Up = y.Up
    case neg => rw [if_pos c1, if_pos c2, if_pos c3, if_neg c4]; exact hno (fun q => c4 (by rw [q]))
    rw [if_pos c1, if_pos c2, if_pos c3, if_pos c4]
    have hall : x.Key = y.Key → x.Kids = y.Kids → x = y := fun q1 q2 => by cases x; cases y; simp_all
    by_cases c5 : x.Key = true
    · rw [if_pos c5]
      by_cases c6 : y.Key = true
      · rw [if_pos c6]
        by_cases c7 : (x.Kids.length : Int) = (y.Kids.length : Int)
        · rw [if_pos c7]; exact hyes (by omega) (hall (by rw [c5, c6]))
        · rw [if_neg c7]; exact hno (fun q => c7 (by rw [q]))
      · rw [if_neg c6]; exact hno (fun q => c6 (by rw [← q]; exact c5))
    · rw [if_neg c5]
      by_cases c6 : y.Key = true
      · rw [if_pos c6]; exact hno (fun q => c5 (by rw [q]; exact c6))
      · rw [if_neg c6]
        by_cases c7 : (x.Kids.length : Int) = (y.Kids.length : Int)
        · rw [if_pos c7]; exact hyes (by omega) (hall (by rw [Bool.eq_false_iff.2 c5, Bool.eq_false_iff.2 c6]))
        · rw [if_neg c7]; exact hno (fun q => c7 (by rw [q]))
theorem rsame_eq (F : Nat) (a b : List api_Node) (hs : Small a) (hF : ∀ x ∈ a, x.Kids.length < F) (hl : a.length < F) : correctorref10_Same F ⟨a⟩ ⟨b⟩ = some (decide (a = b)) := by
  unfold correctorref10_Same
  by_cases hab : a.length = b.length
  · rw [if_pos (by show (a.length : Int) = (b.length : Int); omega)]
    have := req_l0 F a b hs hF hab a.length F 0 (by omega) hl
    rw [show ((0 : Nat) : Int) = 0 from rfl, List.drop_zero, List.drop_zero] at this
    rw [this]
    by_cases h : a = b
    · rw [if_pos h]; simp [h]
    · rw [if_neg h]; simp [h]
  · rw [if_neg (by show ¬ (a.length : Int) = (b.length : Int); omega)]
    have : a ≠ b := fun q => hab (by rw [q])
    simp [this]
end Go.Proofs.Ytpijjenaadkjdaa.M
