/- ArenaPlays, plainly. -/
import Derived.Test.YtpijjenaadkjdaaPRef
namespace Go.Proofs.Ytpijjenaadkjdaa.M
open Go Am Sy
set_option linter.unusedVariables false
set_option linter.unusedSimpArgs false

theorem grow00 (l : List api_Node) (n : Int) (h : Tree l n) (hn : 0 ≤ n) : growL l.length l 0 0 = l := by
  obtain ⟨x, h1, h2⟩ := h.root
  have hp := h.pos
  obtain ⟨k, hk⟩ : ∃ k, l.length = k + 1 := ⟨l.length - 1, by omega⟩
  rw [hk]
  have hz : ((0 : Int)).toNat = 0 := rfl
  have hu := h.up 0 x h1
  have hs : l.set 0 (toMax x 0) = l := by
    have : toMax x 0 = x := by unfold toMax; rw [imax_eq, show max x.To 0 = x.To by omega]
    rw [this]
    have h3 := (List.getElem?_eq_some_iff.1 h1)
    obtain ⟨q1, q2⟩ := h3
    rw [← q2]; exact List.set_getElem_self q1
  simp only [growL, Int.le_refl, if_true, hz, h1, hs]
  cases k with
  | zero => rfl
  | succ k => rw [growL, if_neg (by omega)]
theorem rgrow_eq (F : Nat) (l : List api_Node) (n i to : Int) (h : Tree l n) (hF : l.length < F) : correctorref10_Grow F ⟨l⟩ i to = some ⟨if 0 ≤ i ∧ i < l.length ∧ to ≤ n then growL l.length l i to else l⟩ := by
  obtain ⟨x, h1, h2⟩ := h.root
  have hp := h.pos
  have hz : ((0 : Int)).toNat = 0 := rfl
  unfold correctorref10_Grow
  by_cases c1 : i < 0
  · rw [if_pos c1, if_neg (by omega)]
  rw [if_neg c1]
  by_cases c2 : (l.length : Int) ≤ i
  · rw [if_pos c2, if_neg (by omega)]
  rw [if_neg c2, if_pos (by show 0 ≤ (0 : Int) ∧ (0 : Int) < (l.length : Int); omega), hz]
  simp only [h1, Option.bind_some]
  by_cases c3 : x.To < to
  · rw [if_pos c3, if_neg (by omega)]
  rw [if_neg c3, copied_eq F ⟨l⟩ h.small hF]
  simp only [Option.bind_some]
  rw [reach_eq F l i to l.length h.up (by omega) (Nat.le_refl _) hF, if_pos (by omega)]
  rfl
theorem agrow_eq (F : Nat) (l : List api_Node) (n i to : Int) (h : Tree l n) (hF : l.length < F) : arena_Grow F ⟨l⟩ i to = some ⟨if 0 ≤ i ∧ i < l.length ∧ to ≤ n then growL l.length l i to else l⟩ := by
  have hp := h.pos
  obtain ⟨x, h1, h2⟩ := h.root
  rw [grow_eq F ⟨l⟩ i to h.small hF hp]
  have : l[0] = x := by
    have := List.getElem?_eq_getElem hp
    rw [h1] at this; exact (Option.some.inj this).symm
  show some (⟨if 0 ≤ i ∧ i < (l.length : Int) ∧ to ≤ l[0].To then growL l.length l i to else l⟩ : arena_Tree) = _
  rw [this, h2]
theorem plays_l0 (F : Nat) (hF : 2000 ≤ F) (a0 : Int) (a1 : List correctorlaw10_Act) (hl : a1.length ≤ 9223372036854775807) (m : Int) (h0 : 0 ≤ m) (h1 : m < 60) : ∀ (d n i : Nat) (l : List api_Node), Tree l m → l.length ≤ i + 1 → i + d = 41 → d < n →
    correctorlaw10_ArenaPlays_l0 F a0 a1 n m l l (i : Int) = some (.inl ()) := by
  intro d
  induction d with
  | zero =>
    intro n i l ht hi h2 h3
    obtain ⟨n, rfl⟩ : ∃ m, n = m + 1 := ⟨n - 1, by omega⟩
    rw [correctorlaw10_ArenaPlays_l0]
    split
    · rw [if_neg (by omega)]
    · rfl
  | succ d ih =>
    intro n i l ht hi h2 h3
    obtain ⟨n, rfl⟩ : ∃ m, n = m + 1 := ⟨n - 1, by omega⟩
    rw [correctorlaw10_ArenaPlays_l0]
    by_cases c1 : (i : Int) < (a1.length : Int)
    case neg => rw [if_neg c1]
    rw [if_pos c1]
    by_cases c2 : (i : Int) < 40
    case neg => rw [if_neg c2]
    rw [if_pos c2, if_pos (by omega), get_nat, List.getElem?_eq_getElem (by omega)]
    simp only [Option.bind_some, correctorlaw10_ToRef]
    generalize a1[i] = a
    have hlen : l.length ≤ 41 := by omega
    have hp := ht.pos
    rw [rgrow_eq F l m 0 0 ht (by omega), if_pos (by omega), grow00 l m ht h0]
    simp only [Option.bind_some]
    have w1 : w64 ((l.length : Int) + 2) = (l.length : Int) + 2 := w64_eq (by omega) (by omega)
    have w2 : w64 (m + 2) = m + 2 := w64_eq (by omega) (by omega)
    rw [within_eq F _ 8 (by omega) (by omega), w1, w2]
    simp only [Option.bind_some]
    rw [within_eq F _ _ (by omega) (by omega), within_eq F _ (m + 2) (by omega) (by omega), within_eq F _ 12 (by omega) (by omega), within_eq F _ 9 (by omega) (by omega)]
    simp only [Option.bind_some]
    have r1 := wi_range a.A ((l.length : Int) + 2) (by omega)
    have r2 := wi_range a.C (m + 2) (by omega)
    have r3 := wi_range a.B 12 (by omega)
    have r4 := wi_range a.D 9 (by omega)
    generalize wi a.A ((l.length : Int) + 2) = u at *
    generalize wi a.C (m + 2) = c at *
    generalize wi a.B 12 = b at *
    generalize wi a.D 9 = e at *
    have v1 : w64 (u - 1) = u - 1 := w64_eq (by omega) (by omega)
    have v2 : w64 (1 + b) = 1 + b := w64_eq (by omega) (by omega)
    have v3 : w64 (c - 1) = c - 1 := w64_eq (by omega) (by omega)
    have v4 : w64 (c - 1 + e) = c - 1 + e := w64_eq (by omega) (by omega)
    have v5 : w64 (c - 1 + e - 1) = c - 1 + e - 1 := w64_eq (by omega) (by omega)
    have hw : w64 ((i : Int) + 1) = ((i + 1 : Nat) : Int) := by rw [w64_eq (by omega) (by omega)]; omega
    rw [v1, v2, v3, v4, v5]
    have fin : ∀ l' : List api_Node, Tree l' m → l'.length ≤ i + 2 → ((correctorref10_Same F ⟨l'⟩ ⟨l'⟩).bind fun r8095 =>
            if r8095 = true then
              (correctorref10_Same F ⟨l⟩ ⟨l⟩).bind fun r8124 =>
              if r8124 = true then
                correctorlaw10_ArenaPlays_l0 F a0 a1 n m l' l' (w64 ((i : Int) + 1))
              else
                some (.inr false)
            else
              some (.inr false)) = some (.inl ()) := by
      intro l' ht' hl'
      rw [rsame_refl F l' ht'.small (fun x hx => by have := ht'.few x hx; omega) (by omega)]
      simp only [Option.bind_some, if_true]
      rw [rsame_refl F l ht.small (fun x hx => by have := ht.few x hx; omega) (by omega)]
      simp only [Option.bind_some, if_true]
      rw [hw]
      exact ih n (i + 1) l' ht' (by omega) (by omega) (by omega)
    by_cases c3 : wi a.Kind 8 < 6
    · rw [if_pos c3]
      by_cases hm : mayAdd l (u - 1) (1 + b) (c - 1) (c - 1 + e - 1)
      · obtain ⟨q1, q2⟩ := ht.add (by omega) hm
        rw [add_yes F ⟨l⟩ _ _ _ _ ht.small (by show l.length < _; omega) (by show l.length + 1 < F; omega) hm, radd_yes F l m _ _ _ _ ht (by omega) (by omega) hm]
        simp only [Option.bind_some, if_true]
        exact fin _ q1 (by omega)
      · rw [add_no F ⟨l⟩ _ _ _ _ ht.small (by show l.length < F; omega) hm, radd_no F l m _ _ _ _ ht (by omega) hm]
        simp only [Option.bind_some, if_true]
        exact fin _ ht (by omega)
    · rw [if_neg c3, agrow_eq F l m _ _ ht (by omega), rgrow_eq F l m _ _ ht (by omega)]
      simp only [Option.bind_some]
      split
      · rename_i q
        exact fin _ (ht.grow _ _ _ q.2.2) (by rw [growL_length]; omega)
      · exact fin _ ht (by omega)
theorem plays_holds (F : Nat) (a0 : Int) (a1 : List correctorlaw10_Act) (hF : 2000 ≤ F) (hl : a1.length ≤ 9223372036854775807) : correctorlaw10_ArenaPlays F a0 a1 = some true := by
  unfold correctorlaw10_ArenaPlays
  rw [known_eq]
  simp only [Option.bind_some, if_true]
  rw [within_eq F a0 60 (by omega) (by omega)]
  simp only [Option.bind_some]
  have r := wi_range a0 60 (by omega)
  rw [new_eq F _ r.1 (by omega)]
  have hn : correctorref10_New F (wi a0 60) = some ⟨[⟨1, 0, wi a0 60, -1, [], false⟩]⟩ := by
    unfold correctorref10_New
    rw [if_neg (by omega), if_neg (by omega)]; rfl
  rw [hn]
  simp only [Option.bind_some]
  have := plays_l0 F hF a0 a1 hl (wi a0 60) r.1 r.2 41 F 0 _ (Tree.new _) (by simp) (by omega) (by omega)
  rw [show ((0 : Nat) : Int) = 0 from rfl] at this
  rw [this]; rfl
end Go.Proofs.Ytpijjenaadkjdaa.M
