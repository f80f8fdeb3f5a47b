/- ArenaChecks, plainly. -/
import Derived.Test.YtpijjenaadkjdaaPChk2
namespace Go.Proofs.Ytpijjenaadkjdaa.M
open Go Am Sy
set_option linter.unusedVariables false
set_option linter.unusedSimpArgs false

theorem bind_of {α : Type} {o : Option α} {f : α → Option Bool} {P : α → Prop} (h : ∃ y, o = some y ∧ P y) (k : ∀ y, P y → f y = some true) : o.bind f = some true := by
  obtain ⟨y, rfl, hy⟩ := h
  exact k y hy
theorem few_l0 (F : Nat) (l : List api_Node) (hl : l.length ≤ 9223372036854775807) : ∀ (d n i : Nat), i + d = l.length → (d < n ∨ 2000 + i ≤ n + 0) → True := fun _ _ _ _ _ => trivial
theorem few_run (F : Nat) (l : List api_Node) (hl : l.length ≤ 9223372036854775807) : ∀ (d n i : Nat), i + d = l.length → d < n → ∃ r, correctorlaw10_Few_l0 F l n (i : Int) = some r ∧ ((r = .inl () ∧ ∀ x ∈ l.drop i, x.Kids.length ≤ 20) ∨ r = .inr false) := by
  intro d
  induction d with
  | zero =>
    intro n i h1 h2
    obtain ⟨n, rfl⟩ : ∃ m, n = m + 1 := ⟨n - 1, by omega⟩
    rw [correctorlaw10_Few_l0, if_neg (by omega)]
    exact ⟨_, rfl, .inl ⟨rfl, fun x hx => by rw [List.drop_eq_nil_of_le (by omega)] at hx; cases hx⟩⟩
  | succ d ih =>
    intro n i h1 h2
    obtain ⟨n, rfl⟩ : ∃ m, n = m + 1 := ⟨n - 1, by omega⟩
    have hi : i < l.length := by omega
    rw [correctorlaw10_Few_l0, if_pos (by omega), if_pos (by omega), get_nat, List.getElem?_eq_getElem hi]
    simp only [Option.bind_some]
    by_cases c : (20 : Int) < l[i].Kids.length
    · rw [if_pos c]; exact ⟨_, rfl, .inr rfl⟩
    · rw [if_neg c]
      have hw : w64 ((i : Int) + 1) = ((i + 1 : Nat) : Int) := by rw [w64_eq (by omega) (by omega)]; omega
      rw [hw]
      obtain ⟨r, q1, q2⟩ := ih n (i + 1) (by omega) (by omega)
      refine ⟨r, q1, ?_⟩
      rcases q2 with ⟨q2, q3⟩ | q2
      · refine .inl ⟨q2, fun x hx => ?_⟩
        rw [List.drop_eq_getElem_cons hi] at hx
        rcases List.mem_cons.1 hx with rfl | hx
        · omega
        · exact q3 x hx
      · exact .inr q2
theorem few_eq (F : Nat) (l : List api_Node) (hl : l.length ≤ 9223372036854775807) (hF : l.length + 2000 ≤ F) : ∃ b, correctorlaw10_Few F l = some b ∧ (b = true → Fits F l) := by
  unfold correctorlaw10_Few
  obtain ⟨r, q1, q2⟩ := few_run F l hl l.length F 0 (by omega) (by omega)
  rw [show ((0 : Nat) : Int) = 0 from rfl] at q1
  rw [q1]
  rcases q2 with ⟨rfl, q3⟩ | rfl
  · simp only [Option.bind_some]
    rw [List.drop_zero] at q3
    split
    · exact ⟨_, rfl, fun _ => ⟨by omega, fun x hx => by have := q3 x hx; omega, by omega⟩⟩
    · exact ⟨_, rfl, fun q => by cases q⟩
  · exact ⟨_, rfl, fun q => by cases q⟩
theorem Tree.fits {F : Nat} {l : List api_Node} {n : Int} (h : Tree l n) (hl : l.length ≤ 100) (hF : 2000 ≤ F) : Fits F l := ⟨by omega, fun x hx => by have := h.few x hx; omega, hF⟩
theorem grow00 (l : List api_Node) (n : Int) (h : Tree l n) (hn : 0 ≤ n) : growL l.length l 0 0 = l := by
  obtain ⟨x, h1, h2⟩ := h.root
  have hp := h.pos
  obtain ⟨k, hk⟩ : ∃ k, l.length = k + 1 := ⟨l.length - 1, by omega⟩
  rw [hk]
  have hz : ((0 : Int)).toNat = 0 := rfl
  have hu := h.up 0 x h1
  have hs : l.set 0 (toMax x 0) = l := by
    have : toMax x 0 = x := by unfold toMax; rw [imax_eq, show max x.To 0 = x.To by omega]
    rw [this]
    have h3 := (List.getElem?_eq_some_iff.1 h1)
    obtain ⟨q1, q2⟩ := h3
    rw [← q2]; exact List.set_getElem_self q1
  simp only [growL, Int.le_refl, if_true, hz, h1, hs]
  cases k with
  | zero => rfl
  | succ k => rw [growL, if_neg (by omega)]
theorem rgrow0 (F : Nat) (l : List api_Node) (n : Int) (h : Tree l n) (hn : 0 ≤ n) (hF : l.length < F) : correctorref10_Grow F ⟨l⟩ 0 0 = some ⟨l⟩ := by
  obtain ⟨x, h1, h2⟩ := h.root
  have hp := h.pos
  have hz : ((0 : Int)).toNat = 0 := rfl
  unfold correctorref10_Grow
  rw [if_neg (by omega), if_neg (by show ¬ (l.length : Int) ≤ 0; omega), if_pos (by show 0 ≤ (0 : Int) ∧ (0 : Int) < (l.length : Int); omega), hz]
  simp only [h1, Option.bind_some]
  rw [if_neg (by omega), copied_eq F ⟨l⟩ h.small hF]
  simp only [Option.bind_some]
  rw [reach_eq F l 0 0 l.length h.up (by omega) (Nat.le_refl _) hF, grow00 l n h hn]
  rfl
theorem chk_l0 (F : Nat) (hF : 2000 ≤ F) (a0 : Int) (a1 : List correctorlaw10_Act) (a2 : List api_Node) (a3 a4 a5 : Int) (hl : a1.length ≤ 9223372036854775807) (m : Int) (h0 : 0 ≤ m) (h1 : m < 40) : ∀ (d n i : Nat) (l : List api_Node), Tree l m → l.length ≤ i + 1 → i + d = 21 → d < n →
    ∃ l', correctorlaw10_ArenaChecks_l0 F a0 a1 a2 a3 a4 a5 n m l (i : Int) = some (m, l') ∧ Tree l' m ∧ l'.length ≤ 22 := by
  intro d
  induction d with
  | zero =>
    intro n i l ht hi h2 h3
    obtain ⟨n, rfl⟩ : ∃ m, n = m + 1 := ⟨n - 1, by omega⟩
    rw [correctorlaw10_ArenaChecks_l0]
    split
    · rw [if_neg (by omega)]; exact ⟨l, rfl, ht, by omega⟩
    · exact ⟨l, rfl, ht, by omega⟩
  | succ d ih =>
    intro n i l ht hi h2 h3
    obtain ⟨n, rfl⟩ : ∃ m, n = m + 1 := ⟨n - 1, by omega⟩
    have hlen : l.length ≤ 21 := by omega
    have hp := ht.pos
    rw [correctorlaw10_ArenaChecks_l0]
    by_cases c1 : (i : Int) < (a1.length : Int)
    case neg => rw [if_neg c1]; exact ⟨l, rfl, ht, by omega⟩
    by_cases c2 : (i : Int) < 20
    case neg => rw [if_pos c1, if_neg c2]; exact ⟨l, rfl, ht, by omega⟩
    have hg : 0 ≤ (i : Int) ∧ (i : Int) < (a1.length : Int) := by omega
    rw [if_pos c1, if_pos c2, if_pos hg]
    simp only [get_nat, List.getElem?_eq_getElem (show i < a1.length by omega), Option.bind_some, if_pos hg]
    generalize a1[i] = a
    have w1 : w64 (m + 1) = m + 1 := w64_eq (by omega) (by omega)
    rw [within_eq F _ _ (by omega) (by omega), w1]
    simp only [Option.bind_some]
    rw [within_eq F _ _ (by omega) (by omega), within_eq F _ 5 (by omega) (by omega)]
    simp only [Option.bind_some]
    have r1 := wi_range a.A (l.length : Int) (by omega)
    have r2 := wi_range a.C (m + 1) (by omega)
    have r3 := wi_range a.D 5 (by omega)
    generalize wi a.A (l.length : Int) = u at *
    generalize wi a.C (m + 1) = c at *
    generalize wi a.D 5 = e at *
    have v1 : w64 (c + e) = c + e := w64_eq (by omega) (by omega)
    have hw : w64 ((i : Int) + 1) = ((i + 1 : Nat) : Int) := by rw [w64_eq (by omega) (by omega)]; omega
    rw [v1, hw]
    by_cases hm : mayAdd l u 3 c (c + e)
    · obtain ⟨q1, q2⟩ := ht.add (by omega) hm
      rw [radd_yes F l m _ _ _ _ ht (by omega) (by omega) hm]
      simp only [Option.bind_some]
      exact ih n (i + 1) _ q1 (by omega) (by omega) (by omega)
    · rw [radd_no F l m _ _ _ _ ht (by omega) hm]
      simp only [Option.bind_some]
      exact ih n (i + 1) _ ht (by omega) (by omega) (by omega)
theorem fits_set {F : Nat} {l : List api_Node} (h : Fits F l) (i : Nat) (x : api_Node) (hk : x.Kids.length ≤ 1000) : Fits F (l.set i x) :=
  ⟨by rw [List.length_set]; exact h.n, fun y hy => by
    rcases List.mem_or_eq_of_mem_set hy with q | q
    · exact h.k y q
    · rw [q]; exact hk, h.F⟩
theorem checks_holds (F : Nat) (a0 : Int) (a1 : List correctorlaw10_Act) (a2 : List api_Node) (a3 a4 a5 : Int) (hl1 : a1.length ≤ 9223372036854775807) (hl : a2.length ≤ 9223372036854775807) (hF : a2.length + 2000 ≤ F) : correctorlaw10_ArenaChecks F a0 a1 a2 a3 a4 a5 = some true := by
  unfold correctorlaw10_ArenaChecks
  rw [known_eq]
  simp only [Option.bind_some, if_true]
  obtain ⟨b, hb, hfew⟩ := few_eq F a2 hl hF
  rw [hb]
  simp only [Option.bind_some]
  cases b with
  | false => rfl
  | true =>
    have hraw := hfew rfl
    simp only [if_true]
    rw [within_eq F a0 40 (by omega) (by omega)]
    simp only [Option.bind_some]
    have r0 := wi_range a0 40 (by omega)
    generalize wi a0 40 = m at *
    have hn : correctorref10_New F m = some ⟨[⟨1, 0, m, -1, [], false⟩]⟩ := by
      unfold correctorref10_New
      rw [if_neg (by omega), if_neg (by omega)]; rfl
    rw [hn]
    simp only [Option.bind_some]
    obtain ⟨x, hx, ht, hxl⟩ := chk_l0 F (by omega) a0 a1 a2 a3 a4 a5 hl1 m r0.1 r0.2 21 F 0 _ (Tree.new m) (by simp) (by omega) (by omega)
    rw [show ((0 : Nat) : Int) = 0 from rfl] at hx
    rw [hx]
    have hfx : Fits F x := ht.fits (by omega) (by omega)
    obtain ⟨b1, e1, e2⟩ := both_check F x m hfx r0.1
    obtain ⟨b2, e3, e4⟩ := both_check F a2 m hraw r0.1
    simp only [Option.bind_some, correctorlaw10_Of, e1, e2, e3, e4]
    have hp := ht.pos
    have w1 : w64 ((x.length : Int) + 2) = (x.length : Int) + 2 := w64_eq (by omega) (by omega)
    have w2 : w64 ((x.length : Int) + 1) = (x.length : Int) + 1 := w64_eq (by omega) (by omega)
    have rk := wi_range a4 (x.length : Int) (by omega)
    have hk : (wi a4 (x.length : Int)).toNat < x.length := by omega
    have key : ((correctorref10_Grow F ⟨x⟩ 0 0).bind fun r13950 =>
          (correctorlaw10_within F a4 (r13950.Nodes.length : Int)).bind fun r13970 => (some (r13950, r13970) : Option (correctorref10_Tree × Int))) = some (⟨x⟩, wi a4 (x.length : Int)) := by
      rw [rgrow0 F x m ht r0.1 (by omega)]
      simp only [Option.bind_some]
      rw [within_eq F _ _ (by omega) (by omega)]
      rfl
    have main : ((if b1 = true then
            if b1 = true then
              if b2 = true then
                if b2 = true then some (.inl x) else some (.inr false)
              else if b2 = true then some (.inr false) else some (.inl x)
            else some (.inr false)
          else
            if b1 = true then some (.inr false)
            else
              if b2 = true then
                if b2 = true then some (.inl x) else some (.inr false)
              else if b2 = true then some (.inr false) else some (.inl x)) : Option (Sum (List api_Node) Bool)) = some (.inl x) := by
      cases b1 <;> cases b2 <;> rfl
    rw [main]
    simp only [Option.bind_some, rgrow0 F x m ht r0.1 (by omega : x.length < F), within_eq F a4 (x.length : Int) (by omega) (by omega), w1, w2]
    have hg : 0 ≤ wi a4 (x.length : Int) ∧ wi a4 (x.length : Int) < (x.length : Int) := rk
    have hgx : x[(wi a4 (x.length : Int)).toNat]? = some x[(wi a4 (x.length : Int)).toNat] := List.getElem?_eq_getElem hk
    have hkk := hfx.k _ (List.getElem_mem hk)
    have hkf := ht.few _ (List.getElem_mem hk)
    simp only [if_pos hg, hgx, Option.bind_some]
    refine bind_of (P := fun p => p.1 = x ∧ Fits F p.2) ?_ ?_
    · rw [within_eq F a3 7 (by omega) (by omega), within_eq F a5 3 (by omega) (by omega), within_eq F a5 _ (by omega) (by omega), within_eq F a5 ((x.length : Int) + 1) (by omega) (by omega)]
      simp only [Option.bind_some]
      generalize x[(wi a4 (x.length : Int)).toNat] = y at *
      split
      · exact ⟨_, rfl, rfl, fits_set hfx _ _ hkk⟩
      split
      · exact ⟨_, rfl, rfl, fits_set hfx _ _ hkk⟩
      split
      · exact ⟨_, rfl, rfl, fits_set hfx _ _ hkk⟩
      split
      · rw [if_pos (by rw [List.length_singleton]; omega)]
        exact ⟨_, rfl, rfl, fits_set hfx _ _ (by show List.length (y.Kids ++ _) ≤ _; rw [List.length_append, List.length_singleton]; omega)⟩
      split
      · split
        · have w3 : w64 ((y.Kids.length : Int) - 1) = ((y.Kids.length - 1 : Nat) : Int) := by rw [w64_eq (by omega) (by omega)]; omega
          rw [w3, if_pos (by omega)]
          exact ⟨_, rfl, rfl, fits_set hfx _ _ (by show List.length (List.drop _ (List.take _ y.Kids)) ≤ _; rw [List.length_drop, List.length_take]; omega)⟩
        · exact ⟨_, rfl, rfl, hfx⟩
      split
      · exact ⟨_, rfl, rfl, fits_set hfx _ _ hkk⟩
      split
      · split
        · exact ⟨_, rfl, rfl, fits_set hfx _ _ hkk⟩
        · exact ⟨_, rfl, rfl, fits_set hfx _ _ hkk⟩
      · exact ⟨_, rfl, rfl, hfx⟩
    · rintro ⟨x', y⟩ ⟨h1, h2⟩
      simp only at h1 h2
      subst h1
      obtain ⟨b3, e5, e6⟩ := both_check F y m h2 r0.1
      have s1 := asame_eq F x' y hfx.small (fun z hz => by have := hfx.k z hz; omega) (by omega)
      have s2 := rsame_eq F x' y hfx.small (fun z hz => by have := hfx.k z hz; omega) (by omega)
      simp only [e5, e6, s1, s2, Option.bind_some]
      generalize decide (x' = y) = b4
      cases b3 <;> cases b4 <;> rfl
end Go.Proofs.Ytpijjenaadkjdaa.M
