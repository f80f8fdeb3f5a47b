/- Arena, plainly: a tree is the same as itself. -/
import Derived.Test.YtpijjenaadkjdaaPA
namespace Go.Proofs.Ytpijjenaadkjdaa.M
open Go Am Sy
set_option linter.unusedVariables false
set_option linter.unusedSimpArgs false

theorem eqint_l0 (F : Nat) (a : List Int) (hl : a.length ≤ 1000000) : ∀ (d n i : Nat), i + d = a.length → d < n → slices_Equal_int_l0 F a a n (a.length : Int) (i : Int) = some (.inl ()) := by
  intro d
  induction d with
  | zero =>
    intro n i h1 h2
    obtain ⟨n, rfl⟩ : ∃ m, n = m + 1 := ⟨n - 1, by omega⟩
    rw [slices_Equal_int_l0, if_neg (by omega)]
  | succ d ih =>
    intro n i h1 h2
    obtain ⟨n, rfl⟩ : ∃ m, n = m + 1 := ⟨n - 1, by omega⟩
    have hi : i < a.length := by omega
    rw [slices_Equal_int_l0, if_pos (by omega), if_pos (by omega), get_nat, List.getElem?_eq_getElem hi]
    simp only [Option.bind_some]
    rw [if_pos (by omega)]
    simp only [if_true]
    have hw : w64 ((i : Int) + 1) = ((i + 1 : Nat) : Int) := by rw [w64_eq (by omega) (by omega)]; omega
    rw [hw]
    exact ih n (i + 1) (by omega) (by omega)
theorem eqint_refl (F : Nat) (a : List Int) (hl : a.length ≤ 1000000) (hF : a.length < F) : slices_Equal_int F a a = some true := by
  unfold slices_Equal_int
  rw [if_pos rfl]
  have := eqint_l0 F a hl a.length F 0 (by omega) hF
  rw [show ((0 : Nat) : Int) = 0 from rfl] at this
  rw [this]; rfl
theorem alike_refl (F : Nat) (x : api_Node) (hl : x.Kids.length ≤ 1000000) (hF : x.Kids.length < F) : arena_alike F x x = some true := by
  unfold arena_alike
  simp only [if_true, eqint_refl F _ hl hF, Option.bind_some]
  split <;> rfl
theorem eqf_l0 (F : Nat) (a : List api_Node) (hs : Small a) (hF : ∀ x ∈ a, x.Kids.length < F) : ∀ (d n i : Nat), i + d = a.length → d < n → slices_EqualFunc_api_Node_l0 F a a n (a.length : Int) (i : Int) = some (.inl ()) := by
  intro d
  induction d with
  | zero =>
    intro n i h1 h2
    obtain ⟨n, rfl⟩ : ∃ m, n = m + 1 := ⟨n - 1, by omega⟩
    rw [slices_EqualFunc_api_Node_l0, if_neg (by omega)]
  | succ d ih =>
    intro n i h1 h2
    obtain ⟨n, rfl⟩ : ∃ m, n = m + 1 := ⟨n - 1, by omega⟩
    have hi : i < a.length := by omega
    have hn := hs.n
    rw [slices_EqualFunc_api_Node_l0, if_pos (by omega), if_pos (by omega), get_nat, List.getElem?_eq_getElem hi]
    simp only [Option.bind_some]
    rw [if_pos (by omega)]
    unfold arena_Same_1
    rw [alike_refl F _ (hs.k _ (List.getElem_mem hi)) (hF _ (List.getElem_mem hi))]
    simp only [Option.bind_some, if_true]
    have hw : w64 ((i : Int) + 1) = ((i + 1 : Nat) : Int) := by rw [w64_eq (by omega) (by omega)]; omega
    rw [hw]
    exact ih n (i + 1) (by omega) (by omega)
theorem same_refl (F : Nat) (t : arena_Tree) (hs : Small t.Nodes) (hF : ∀ x ∈ t.Nodes, x.Kids.length < F) (hl : t.Nodes.length < F) : arena_Same F t t = some true := by
  unfold arena_Same slices_EqualFunc_api_Node
  rw [if_pos rfl]
  have := eqf_l0 F t.Nodes hs hF t.Nodes.length F 0 (by omega) hl
  rw [show ((0 : Nat) : Int) = 0 from rfl] at this
  rw [this]; rfl
end Go.Proofs.Ytpijjenaadkjdaa.M
