/- ArenaTwo, plainly. -/
import Derived.Test.YtpijjenaadkjdaaPS
import Derived.Test.YtpijjenaadkjdaaMTwo0
namespace Go.Proofs.Ytpijjenaadkjdaa.M
open Go Am Sy
set_option linter.unusedVariables false
set_option linter.unusedSimpArgs false

/-- Not more than m of each. -/
structure Bnd (l : List api_Node) (m : Nat) : Prop where
  n : l.length ≤ m
  k : ∀ x ∈ l, x.Kids.length ≤ m
theorem Bnd.small {l : List api_Node} {m : Nat} (h : Bnd l m) (hm : m ≤ 1000000) : Small l := ⟨Nat.le_trans h.n hm, fun x hx => Nat.le_trans (h.k x hx) hm⟩
theorem growL_kids : ∀ (k : Nat) (l : List api_Node) (i to : Int) (m : Nat), (∀ x ∈ l, x.Kids.length ≤ m) → ∀ x ∈ growL k l i to, x.Kids.length ≤ m := by
  intro k
  induction k with
  | zero => intro l i to m h; exact h
  | succ k ih =>
    intro l i to m h
    simp only [growL]
    split
    · split
      · rename_i y hy
        refine ih _ _ _ m fun x hx => ?_
        rcases List.mem_or_eq_of_mem_set hx with hx | rfl
        · exact h x hx
        · exact h y (List.mem_of_getElem? hy)
      · exact h
    · exact h
theorem addL_bnd {l : List api_Node} {m : Nat} (h : Bnd l m) (up kind frm to : Int) : Bnd (addL l up kind frm to) (m + 1) := by
  unfold addL
  split
  · rename_i x hx
    refine ⟨?_, growL_kids _ _ _ _ _ fun y hy => ?_⟩
    · rw [growL_length, List.length_set, List.length_append, List.length_singleton]
      have := h.n; omega
    · rcases List.mem_or_eq_of_mem_set hy with hy | rfl
      · rcases List.mem_append.1 hy with hy | hy
        · have := h.k y hy; omega
        · simp at hy; subst hy; simp
      · have := h.k x (List.mem_of_getElem? hx)
        simp only [List.length_append, List.length_singleton]; omega
  · exact ⟨Nat.le_succ_of_le h.n, fun x hx => Nat.le_succ_of_le (h.k x hx)⟩
theorem addL_pos {l : List api_Node} (h : 0 < l.length) (up kind frm to : Int) : 0 < (addL l up kind frm to).length := by
  unfold addL
  split
  · rw [growL_length, List.length_set, List.length_append, List.length_singleton]; omega
  · exact h
open Classical in
theorem add_some (F : Nat) (l : List api_Node) (up kind frm to : Int) {m : Nat} (h : Bnd l m) (hp : 0 < l.length) (hm : m < 1000000) (hF : m + 1 < F) : ∃ r k, arena_Add F ⟨l⟩ up kind frm to = some (⟨r⟩, k) ∧ Bnd r (m + 1) ∧ 0 < r.length := by
  have hn := h.n
  by_cases hy : mayAdd l up kind frm to
  · exact ⟨_, _, add_yes F ⟨l⟩ up kind frm to (h.small (by omega)) (by show l.length < _; omega) (by show l.length + 1 < F; omega) hy, addL_bnd h _ _ _ _, addL_pos hp _ _ _ _⟩
  · exact ⟨_, _, add_no F ⟨l⟩ up kind frm to (h.small (by omega)) (by show l.length < F; omega) hy, ⟨by omega, fun x hx => Nat.le_succ_of_le (h.k x hx)⟩, hp⟩
theorem two_l0 (F : Nat) (a0 : Int) (a1 : List correctorlaw10_Act) (nn : Int) (t was b : List api_Node) (i k : Int) (hn : 0 < nn ∧ nn ≤ 1000) (hF : 1000 ≤ F) :
    ∀ (d n j m : Nat) (a : List api_Node), j + d = 10 → d < n → Bnd a m → m ≤ 100 + j → 0 < a.length → correctorlaw10_ArenaTwo_l0 F a0 a1 n nn t was a i b k (j : Int) = some (t, was, i, b, k) := by
  intro d
  induction d with
  | zero =>
    intro n j m a h1 h2 h3 h4 h5
    obtain ⟨n, rfl⟩ : ∃ m, n = m + 1 := ⟨n - 1, by omega⟩
    rw [correctorlaw10_ArenaTwo_l0]
    split
    · rw [if_neg (by omega)]
    · rfl
  | succ d ih =>
    intro n j m a h1 h2 h3 h4 h5
    obtain ⟨n, rfl⟩ : ∃ m, n = m + 1 := ⟨n - 1, by omega⟩
    have hl := h3.n
    rw [correctorlaw10_ArenaTwo_l0]
    by_cases hj : (j : Int) < a1.length
    · have hj' : j < a1.length := by omega
      rw [if_pos hj, if_pos (by omega), if_pos (by omega), if_pos ⟨by omega, hj⟩, get_nat, List.getElem?_eq_getElem hj']
      simp only [Option.bind_some]
      rw [within_eq F _ _ (by omega) (by omega)]
      simp only [Option.bind_some]
      rw [if_pos ⟨by omega, hj⟩, within_eq F _ _ hn.1 (by omega)]
      simp only [Option.bind_some]
      rw [if_pos ⟨by omega, hj⟩]
      obtain ⟨r, q, e1, e2, e3⟩ := add_some F a (wi a1[j].A a.length) 7 (wi a1[j].C nn) (wi a1[j].C nn) h3 h5 (by omega) (by omega)
      rw [e1]
      simp only [Option.bind_some]
      have hw : w64 ((j : Int) + 1) = ((j + 1 : Nat) : Int) := by rw [w64_eq (by omega) (by omega)]; omega
      rw [hw]
      exact ih n (j + 1) (m + 1) r (by omega) (by omega) e2 (by omega) e3
    · rw [if_neg hj]
def treeT (n : Int) : List api_Node := [⟨1, 0, n, -1, [1], false⟩, ⟨2, 0, 1, 0, [], false⟩]
def treeA (n : Int) : List api_Node := [⟨1, 0, n, -1, [1], false⟩, ⟨2, 0, 2, 0, [2], false⟩, ⟨3, 1, 2, 1, [], false⟩]
def treeB (n : Int) : List api_Node := [⟨1, 0, n, -1, [1], false⟩, ⟨2, 0, 3, 0, [2], false⟩, ⟨5, 1, 3, 1, [], false⟩]
theorem small_list {l : List api_Node} (h1 : l.length ≤ 10) (h2 : ∀ x ∈ l, x.Kids.length ≤ 10) : Small l := ⟨by omega, fun x hx => Nat.le_trans (h2 x hx) (by omega)⟩
theorem treeT_small (n : Int) : Small (treeT n) := small_list (by simp [treeT]) (fun x hx => by simp [treeT] at hx; rcases hx with rfl | rfl <;> simp)
theorem two_holds (F : Nat) (n : Int) (l : List correctorlaw10_Act) (hF : 2000 ≤ F) : correctorlaw10_ArenaTwo F n l = some true := by
  obtain ⟨n0, n1⟩ := wi_range n 40 (by omega)
  have e1 : w64 (5 + wi n 40) = 5 + wi n 40 := w64_eq (by omega) (by omega)
  generalize hN : 5 + wi n 40 = N at *
  have hN0 : 5 ≤ N := by omega
  have hm : ∀ x : Int, x ≤ N → imax N x = N := fun x hx => by unfold imax; rw [if_neg (by omega)]
  have hs : Small [(⟨1, 0, N, -1, [], false⟩ : api_Node)] := small_list (by simp) (fun x hx => by simp at hx; subst hx; simp)
  have hT : arena_Add F ⟨[⟨1, 0, N, -1, [], false⟩]⟩ 0 2 0 1 = some (⟨treeT N⟩, 1) := by
    rw [add_yes F _ 0 2 0 1 hs (by simp) (by simp; omega) ⟨by omega, by simp, by omega, by omega, by omega, ⟨_, rfl, by simp only; omega⟩, ⟨0, rfl, by omega⟩⟩]
    simp [addL, growL, treeT, toMax, hm 1 (by omega)]
  have hG : arena_Grow F ⟨treeT N⟩ 0 0 = some ⟨treeT N⟩ := by
    rw [grow_eq F ⟨treeT N⟩ 0 0 (treeT_small N) (by simp [treeT]; omega) (by simp [treeT]), if_pos ⟨by omega, by simp [treeT], by simp [treeT]; omega⟩]
    simp [growL, treeT, toMax, hm 0 (by omega)]
  have hA : arena_Add F ⟨treeT N⟩ 1 3 1 2 = some (⟨treeA N⟩, 2) := by
    rw [add_yes F ⟨treeT N⟩ 1 3 1 2 (treeT_small N) (by simp [treeT]) (by simp [treeT]; omega) ⟨by omega, by simp [treeT], by omega, by omega, by omega, ⟨_, rfl, by simp only; omega⟩, ⟨0, rfl, by omega⟩⟩]
    simp [addL, growL, treeT, treeA, toMax, hm 2 (by omega), imax]
  have hB : arena_Add F ⟨treeT N⟩ 1 5 1 3 = some (⟨treeB N⟩, 2) := by
    rw [add_yes F ⟨treeT N⟩ 1 5 1 3 (treeT_small N) (by simp [treeT]) (by simp [treeT]; omega) ⟨by omega, by simp [treeT], by omega, by omega, by omega, ⟨_, rfl, by simp only; omega⟩, ⟨0, rfl, by omega⟩⟩]
    simp [addL, growL, treeT, treeB, toMax, hm 3 (by omega), imax]
  have hL := two_l0 F n l N (treeT N) (treeT N) (treeB N) 2 2 (by omega) (by omega) 10 F 0 10 (treeA N) (by omega) (by omega) ⟨by simp [treeA], fun x hx => by simp [treeA] at hx; rcases hx with rfl | rfl | rfl <;> simp⟩ (by omega) (by simp [treeA])
  rw [show ((0 : Nat) : Int) = 0 from rfl] at hL
  have hS : arena_Same F ⟨treeT N⟩ ⟨treeT N⟩ = some true := same_refl F ⟨treeT N⟩ (treeT_small N) (fun x hx => by simp [treeT] at hx; rcases hx with rfl | rfl <;> simp <;> omega) (by simp [treeT]; omega)
  unfold correctorlaw10_ArenaTwo
  simp only [known_eq, within_eq F n 40 (by omega) (by omega), hN, Option.bind_some, if_true, e1]
  rw [new_eq F _ (by omega) (by omega)]
  simp only [Option.bind_some]
  rw [hT]
  simp only [Option.bind_some]
  rw [hG]
  simp only [Option.bind_some]
  rw [hA]
  simp only [Option.bind_some]
  rw [hB]
  simp only [Option.bind_some, if_true]
  rw [if_neg (by simp [treeA]), hL]
  simp only [Option.bind_some, if_true, hS]
  rw [if_pos (by simp [treeB]), if_pos (by simp [treeB])]
  have h2 : (treeB N)[(2 : Int).toNat]? = some ⟨5, 1, 3, 1, [], false⟩ := rfl
  rw [h2]
  simp only [Option.bind_some, if_true]
  rw [if_pos (by simp [treeB])]
end Go.Proofs.Ytpijjenaadkjdaa.M
