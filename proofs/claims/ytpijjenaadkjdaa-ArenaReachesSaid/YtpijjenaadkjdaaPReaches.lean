/- ArenaReaches, plainly. -/
import Derived.Test.YtpijjenaadkjdaaPC
import Derived.Test.YtpijjenaadkjdaaMReaches0
namespace Go.Proofs.Ytpijjenaadkjdaa.M
open Go Am Sy
set_option linter.unusedVariables false
set_option linter.unusedSimpArgs false

/-- d nodes, one in the other, in a stream of n tokens: each reaches to 'to'. -/
def chain (n : Int) (d : Nat) (to : Int) : List api_Node :=
  ⟨1, 0, n, -1, if d = 0 then [] else [1], false⟩ :: (List.range d).map fun (j : Nat) => (⟨3, (j : Int), to, (j : Int), if j + 1 = d then [] else [((j + 2 : Nat) : Int)], false⟩ : api_Node)
theorem chain_length (n : Int) (d : Nat) (to : Int) : (chain n d to).length = d + 1 := by simp [chain]
theorem chain_kids (n : Int) (d : Nat) (to : Int) : ∀ x ∈ chain n d to, x.Kids.length ≤ 1 := by
  intro x hx
  simp only [chain, List.mem_cons, List.mem_map] at hx
  rcases hx with rfl | ⟨j, _, rfl⟩
  · simp only; split <;> simp
  · simp only; split <;> simp
theorem chain_small (n : Int) (d : Nat) (to : Int) (hd : d ≤ 100) : Small (chain n d to) := ⟨by rw [chain_length]; omega, fun x hx => Nat.le_trans (chain_kids n d to x hx) (by omega)⟩
theorem chain_at (n : Int) (d : Nat) (to : Int) (j : Nat) (hj : j < d) : (chain n d to)[j + 1]? = some ⟨3, (j : Int), to, (j : Int), if j + 1 = d then [] else [((j + 2 : Nat) : Int)], false⟩ := by
  simp only [chain, List.getElem?_cons_succ, List.getElem?_map]
  rw [List.getElem?_range hj]; rfl
theorem imax_l {a b : Int} (h : b ≤ a) : imax a b = a := by unfold imax; rw [if_neg (by omega)]
theorem imax_r {a b : Int} (h : a ≤ b) : imax a b = b := by
  unfold imax
  by_cases q : b > a
  · rw [if_pos q]
  · rw [if_neg q]; omega
theorem lt12 {P : Nat → Prop} (h0 : P 0) (h1 : P 1) (h2 : P 2) (h3 : P 3) (h4 : P 4) (h5 : P 5) (h6 : P 6) (h7 : P 7) (h8 : P 8) (h9 : P 9) (h10 : P 10) (h11 : P 11) (h12 : P 12) : ∀ d, d ≤ 12 → P d := by
  intro d hd
  match d, hd with
  | 0, _ => exact h0
  | 1, _ => exact h1
  | 2, _ => exact h2
  | 3, _ => exact h3
  | 4, _ => exact h4
  | 5, _ => exact h5
  | 6, _ => exact h6
  | 7, _ => exact h7
  | 8, _ => exact h8
  | 9, _ => exact h9
  | 10, _ => exact h10
  | 11, _ => exact h11
  | 12, _ => exact h12
  | d + 13, h => omega
/-- One more on the way out. -/
theorem growL_chain (n : Int) (d : Nat) (to to' : Int) (h1 : to ≤ to') (h2 : to' ≤ n) (hd : d ≤ 12) : growL (d + 1) (chain n d to) (d : Int) to' = chain n d to' := by
  have hn : imax n to' = n := imax_l h2
  have ht : imax to to' = to' := imax_r h1
  revert hd
  revert d
  refine lt12 ?_ ?_ ?_ ?_ ?_ ?_ ?_ ?_ ?_ ?_ ?_ ?_ ?_ <;> simp [chain, growL, toMax, hn, ht, List.range, List.range.loop]
theorem addL_chain (n : Int) (d : Nat) (hd : d ≤ 11) (hn : 20 ≤ n) : addL (chain n d d) (d : Int) 3 (d : Int) ((d : Int) + 1) = chain n (d + 1) ((d : Int) + 1) := by
  have e : addL (chain n d d) (d : Int) 3 (d : Int) ((d : Int) + 1) = growL (d + 2) (chain n (d + 1) d |>.set (d + 1) ⟨3, (d : Int), (d : Int) + 1, (d : Int), [], false⟩) (d : Int) ((d : Int) + 1) := by
    revert hd; revert d
    intro d hd
    have : d ≤ 12 := by omega
    revert this hd; revert d
    intro d hd h12
    revert hd; revert h12; revert d
    refine lt12 ?_ ?_ ?_ ?_ ?_ ?_ ?_ ?_ ?_ ?_ ?_ ?_ ?_ <;> intro hd <;> first | (exfalso; omega) | simp [addL, chain, chain_length, List.range, List.range.loop]
  rw [e]
  have hn' : ∀ k : Int, k ≤ 20 → imax n k = n := fun k hk => imax_l (by omega)
  have h12 : d ≤ 12 := by omega
  revert hd; revert h12; clear e; revert d
  refine lt12 ?_ ?_ ?_ ?_ ?_ ?_ ?_ ?_ ?_ ?_ ?_ ?_ ?_ <;> intro hd <;> first | (exfalso; omega) | simp [chain, growL, toMax, hn', imax, List.range, List.range.loop]
  all_goals omega
theorem check_chain (n : Int) (d : Nat) (to : Int) (h1 : (d : Int) ≤ to) (h2 : to ≤ n) (hd : d ≤ 12) : checkB (chain n d to) n = true := by
  revert h1; revert hd; revert d
  refine lt12 ?_ ?_ ?_ ?_ ?_ ?_ ?_ ?_ ?_ ?_ ?_ ?_ ?_ <;> intro h1 <;> simp [chain, checkB, chkL, liesB, liesL, ndL, List.range, List.range.loop] <;> omega
theorem add_chain (F : Nat) (n : Int) (d : Nat) (hd : d ≤ 11) (hn : 20 ≤ n) (hF : 100 ≤ F) : arena_Add F ⟨chain n d d⟩ (d : Int) 3 (d : Int) ((d : Int) + 1) = some (⟨chain n (d + 1) ((d : Int) + 1)⟩, (d : Int) + 1) := by
  have hl := chain_length n d d
  rw [add_yes F ⟨chain n d d⟩ _ _ _ _ (chain_small n d d (by omega)) (by show List.length _ < _; rw [hl]; omega) (by show List.length _ + 1 < _; rw [hl]; omega)
    ⟨by omega, by show (d : Int) < (List.length _ : Int); rw [hl]; omega, by omega, by omega, by omega, ⟨_, rfl, by show (d : Int) + 1 ≤ n; omega⟩, ?_⟩]
  · show some ((⟨addL (chain n d d) (d : Int) 3 (d : Int) ((d : Int) + 1)⟩ : arena_Tree), ((chain n d d).length : Int)) = _
    rw [addL_chain n d hd hn, hl]; simp
  · show ∃ e, endOf (chain n d d) (d : Int).toNat = some e ∧ e ≤ d
    rw [Int.toNat_natCast]
    cases d with
    | zero => exact ⟨0, rfl, by omega⟩
    | succ j =>
      unfold endOf
      rw [chain_at n (j + 1) _ j (by omega)]
      exact ⟨(j : Int), by simp, by omega⟩
theorem reaches_l0 (F : Nat) (a0 a1 a2 n : Int) (deep : Nat) (hdeep : deep ≤ 12) (hn : 20 ≤ n) (hF : 100 ≤ F) : ∀ (k m d : Nat), d + k = deep → k < m →
    correctorlaw10_ArenaReaches_l0 F a0 a1 a2 m n (deep : Int) a2 (chain n d d) (d : Int) = some (.inl (n, (deep : Int), a2, chain n deep deep)) := by
  intro k
  induction k with
  | zero =>
    intro m d h1 h2
    obtain ⟨m, rfl⟩ : ∃ q, m = q + 1 := ⟨m - 1, by omega⟩
    have : d = deep := by omega
    subst this
    rw [correctorlaw10_ArenaReaches_l0, if_neg (by omega)]
  | succ k ih =>
    intro m d h1 h2
    obtain ⟨m, rfl⟩ : ∃ q, m = q + 1 := ⟨m - 1, by omega⟩
    have hw : w64 ((d : Int) + 1) = (d : Int) + 1 := w64_eq (by omega) (by omega)
    rw [correctorlaw10_ArenaReaches_l0, if_pos (by omega), hw, add_chain F n d (by omega) hn hF]
    simp only [Option.bind_some, if_true]
    have := ih m (d + 1) (by omega) (by omega)
    rw [show ((d + 1 : Nat) : Int) = (d : Int) + 1 by omega] at this
    exact this
theorem reaches_l1 (F : Nat) (a0 a1 a2 n to : Int) (deep : Nat) (t : List api_Node) (hd : deep ≤ 12) (hto : (deep : Int) ≤ to) : ∀ (k m d : Nat), d + k = deep → k < m →
    correctorlaw10_ArenaReaches_l1 F a0 a1 a2 m n (deep : Int) to t (chain n deep to) ((d : Int) + 1) = some (.inl (n, (deep : Int), t, chain n deep to)) := by
  intro k
  induction k with
  | zero =>
    intro m d h1 h2
    obtain ⟨m, rfl⟩ : ∃ q, m = q + 1 := ⟨m - 1, by omega⟩
    rw [correctorlaw10_ArenaReaches_l1, if_neg (by omega)]
  | succ k ih =>
    intro m d h1 h2
    obtain ⟨m, rfl⟩ : ∃ q, m = q + 1 := ⟨m - 1, by omega⟩
    have hl := chain_length n deep to
    have hg : (chain n deep to)[((d : Int) + 1).toNat]? = some ⟨3, (d : Int), to, (d : Int), if d + 1 = deep then [] else [((d + 2 : Nat) : Int)], false⟩ := by
      have : ((d : Int) + 1).toNat = d + 1 := by omega
      rw [this]; exact chain_at n deep to d (by omega)
    have hb : 0 ≤ (d : Int) + 1 ∧ (d : Int) + 1 < ((chain n deep to).length : Int) := by rw [hl]; omega
    have hw : w64 ((d : Int) + 1 + 1) = ((d + 1 : Nat) : Int) + 1 := by rw [w64_eq (by omega) (by omega)]; omega
    have hw2 : w64 ((d : Int) + 1 - 1) = (d : Int) := by rw [w64_eq (by omega) (by omega)]; omega
    rw [correctorlaw10_ArenaReaches_l1, if_pos (by omega), if_pos hb, hg]
    simp only [Option.bind_some]
    rw [if_pos (imax_l hto).symm, if_pos hb, hw2]
    simp only [if_true]
    rw [if_pos hb]
    rw [hw]
    exact ih m (d + 1) (by omega) (by omega)
theorem reaches (F : Nat) (n deep to : Int) (hF : 1000 ≤ F) : correctorlaw10_ArenaReaches F n deep to = some true := by
  obtain ⟨n0, n1⟩ := wi_range n 40 (by omega)
  obtain ⟨d0, d1⟩ := wi_range deep 12 (by omega)
  have e1 : w64 (20 + wi n 40) = 20 + wi n 40 := w64_eq (by omega) (by omega)
  have e2 : w64 (1 + wi deep 12) = 1 + wi deep 12 := w64_eq (by omega) (by omega)
  obtain ⟨D, hD⟩ : ∃ D : Nat, 1 + wi deep 12 = (D : Int) := ⟨(1 + wi deep 12).toNat, by omega⟩
  generalize hN : 20 + wi n 40 = N at *
  have hd : D ≤ 12 := by omega
  have e2' : w64 (D : Int) = D := w64_eq (by omega) (by omega)
  obtain ⟨t0, t1⟩ := wi_range to (N - D + 1) (by omega)
  have e3 : w64 (w64 (N - D) + 1) = N - D + 1 := by rw [w64_eq (x := N - D) (by omega) (by omega), w64_eq (by omega) (by omega)]
  have e4 : w64 ((D : Int) + wi to (N - D + 1)) = (D : Int) + wi to (N - D + 1) := w64_eq (by omega) (by omega)
  generalize hT : (D : Int) + wi to (N - D + 1) = T at *
  have e5 : w64 ((D : Int) + 1) = (D : Int) + 1 := w64_eq (by omega) (by omega)
  have e6 : w64 (N + 1) = N + 1 := w64_eq (by omega) (by omega)
  have hl := chain_length N D D
  have hl2 := chain_length N D T
  have hL0 := reaches_l0 F n deep to N D hd (by omega) (by omega) D F 0 (by omega) (by omega)
  rw [show chain N 0 ((0 : Nat) : Int) = [⟨1, 0, N, -1, [], false⟩] from rfl, show ((0 : Nat) : Int) = 0 from rfl] at hL0
  have hL1 := reaches_l1 F n deep to N T D (chain N D D) hd (by omega) D F 0 (by omega) (by omega)
  rw [show ((0 : Nat) : Int) + 1 = 1 from rfl] at hL1
  have g0 : ∀ T', (chain N D T')[0]'(by rw [chain_length]; omega) = ⟨1, 0, N, -1, if D = 0 then [] else [1], false⟩ := fun T' => rfl
  have hG : arena_Grow F ⟨chain N D D⟩ (D : Int) T = some ⟨chain N D T⟩ := by
    rw [grow_eq F ⟨chain N D D⟩ _ _ (chain_small N D D (by omega)) (by show List.length _ < _; rw [hl]; omega) (by show 0 < List.length _; rw [hl]; omega), if_pos ⟨by omega, by show (D : Int) < (List.length _ : Int); rw [hl]; omega, by show T ≤ N; omega⟩]
    show some (⟨growL (List.length (chain N D D)) (chain N D D) (D : Int) T⟩ : arena_Tree) = _
    rw [hl, growL_chain N D D T (by omega) (by omega) hd]
  have hG2 : arena_Grow F ⟨chain N D T⟩ (D : Int) (N + 1) = some ⟨chain N D T⟩ := by
    rw [grow_eq F ⟨chain N D T⟩ _ _ (chain_small N D T (by omega)) (by show List.length _ < _; rw [hl2]; omega) (by show 0 < List.length _; rw [hl2]; omega), if_neg (fun q => by have : N + 1 ≤ N := q.2.2; omega)]
  have hG3 : arena_Grow F ⟨chain N D T⟩ (-1) 3 = some ⟨chain N D T⟩ := by
    rw [grow_eq F ⟨chain N D T⟩ _ _ (chain_small N D T (by omega)) (by show List.length _ < _; rw [hl2]; omega) (by show 0 < List.length _; rw [hl2]; omega), if_neg (fun q => by have := q.1; omega)]
  have hk : ∀ T', ∀ x ∈ (chain N D T'), x.Kids.length < F := fun T' x hx => Nat.lt_of_le_of_lt (chain_kids N D T' x hx) (by omega)
  have hC : ∀ T' : Int, (D : Int) ≤ T' → T' ≤ N → arena_Check F ⟨chain N D T'⟩ N = some true := fun T' q1 q2 => by
    rw [check_eq F ⟨chain N D T'⟩ _ (chain_small N D T' (by omega)) (by show List.length _ < _; rw [chain_length]; omega) (hk T')]
    show some (checkB (chain N D T') N) = _
    rw [check_chain N D T' q1 q2 hd]
  have hS : arena_Same F ⟨chain N D T⟩ ⟨chain N D T⟩ = some true := same_refl F ⟨chain N D T⟩ (chain_small N D T (by omega)) (hk T) (by show List.length _ < _; rw [hl2]; omega)
  unfold correctorlaw10_ArenaReaches
  simp only [known_eq, within_eq F n 40 (by omega) (by omega), within_eq F deep 12 (by omega) (by omega), hN, Option.bind_some, if_true, e1, hD, e2']
  rw [new_eq F _ (by omega) (by omega)]
  simp only [Option.bind_some]
  rw [hL0]
  simp only [Option.bind_some, e3]
  rw [within_eq F to _ (by omega) (by omega)]
  simp only [Option.bind_some]
  rw [hT, e4, hG]
  simp only [Option.bind_some]
  rw [if_pos (by rw [hl2, e5]; omega), if_pos (by rw [hl2]; omega)]
  rw [show (0 : Int).toNat = 0 from rfl, show (chain N D T)[0]? = some ⟨1, 0, N, -1, if D = 0 then [] else [1], false⟩ from rfl]
  simp only [Option.bind_some, if_true]
  rw [hL1]
  simp only [Option.bind_some]
  rw [hC T (by omega) (by omega)]
  simp only [Option.bind_some, if_true]
  rw [hC D (by omega) (by omega)]
  simp only [Option.bind_some, if_true]
  rw [e6, hG2]
  simp only [Option.bind_some, hS, if_true]
  rw [hG3]
  simp only [Option.bind_some, hS]
end Go.Proofs.Ytpijjenaadkjdaa.M
