/- RowsTile, plainly. -/
import Derived.Test.YtcnbcimnfeekjaaP9X
import Derived.Test.YtcnbcimnfeekjaaMLT0
namespace Go.Proofs.Ytcnbcimnfeekjaa.M
open Go Am Sy
set_option linter.unusedVariables false
set_option linter.unusedSimpArgs false
set_option maxRecDepth 100000
theorem span_end : ∀ (s c : List api_Token) (n : Int), (span c n s).2.2 ≠ [] → ∃ q t, (span c n s).1 = q ++ [t] ∧ endK t.Kind = true := by
  intro s
  induction s with
  | nil => intro c n h; exact absurd rfl h
  | cons t s ih =>
    intro c n h
    rw [span] at h ⊢
    by_cases hk : endK t.Kind = true
    · rw [if_pos hk]; exact ⟨c, t, rfl, hk⟩
    · rw [if_neg hk] at h ⊢; exact ih _ _ h
theorem go_nil_iff (K : List api_Token → Int → Int) (f o n : Int) (s : List api_Token) : goR K f [] o n s = [] ↔ s = [] := by
  constructor
  · intro h
    by_cases hs : s = []
    · exact hs
    · rw [go_span K s [] f o n (by simp [hs])] at h; cases h
  · rintro rfl; simp [goR]
theorem fc_snoc (c : List api_Token) (t : api_Token) : (fc (c ++ [t])).isSome = ((fc c).isSome || cnt t.Kind) := by
  unfold fc
  rw [List.find?_append]
  cases h : c.find? (fun t => cnt t.Kind) with
  | some u => simp
  | none => cases hk : cnt t.Kind <;> simp [hk]
theorem tile_l1 (F : Nat) (ns : List Int) (raw : List UInt8) (l : List api_Token) (x : List api_Row) (i : Int) (row : api_Row) (hi : 0 ≤ i ∧ i < (x.length : Int)) (hrow : x[i.toNat]? = some row) (hn : l.length ≤ 20000) :
    ∀ (c2 c1 p s : List api_Token) (m : Nat), l = p ++ c1 ++ (c2 ++ s) → row.To = (p.length : Int) + (c1.length : Int) + (c2.length : Int) → c2.length < m →
    correctorlaw9_RowsTile_l1 F ns raw m l x i (fc c1).isSome ((p.length : Int) + (c1.length : Int)) = some (l, x, i, (fc (c1 ++ c2)).isSome) := by
  intro c2
  induction c2 with
  | nil =>
    intro c1 p s m h1 h2 h3
    obtain ⟨m, rfl⟩ : ∃ k, m = k + 1 := ⟨m - 1, by omega⟩
    rw [correctorlaw9_RowsTile_l1, if_pos hi, hrow]
    simp only [Option.bind_some]
    rw [if_neg (by simp at h2; omega)]
    simp
  | cons t c2 ih =>
    intro c1 p s m h1 h2 h3
    obtain ⟨m, rfl⟩ : ∃ k, m = k + 1 := ⟨m - 1, by omega⟩
    simp only [List.length_cons] at h2 h3
    have hl : l.length = p.length + c1.length + c2.length + s.length + 1 := by rw [h1]; simp; omega
    rw [correctorlaw9_RowsTile_l1, if_pos hi, hrow]
    simp only [Option.bind_some]
    rw [if_pos (by omega)]
    have e1 := mid_lt2 p c1 (c2 ++ s) t
    have e2 := get_mid2 p c1 (c2 ++ s) t
    rw [show p ++ c1 ++ t :: (c2 ++ s) = l by rw [h1]; simp] at e1 e2
    have ew : w64 ((p.length : Int) + (c1.length : Int) + 1) = (p.length : Int) + ((c1 ++ [t]).length : Int) := by rw [w64_eq (by omega) (by omega)]; simp; omega
    have := ih (c1 ++ [t]) p s m (by rw [h1]; simp) (by rw [h2]; simp; omega) (by omega)
    rw [fc_snoc] at this
    rw [show c1 ++ [t] ++ c2 = c1 ++ t :: c2 by simp] at this
    by_cases hf : (fc c1).isSome = true
    · rw [if_pos hf]
      simp only [Option.bind_some]
      rw [ew]
      rw [hf] at this
      exact this
    · have hf' : (fc c1).isSome = false := by simpa using hf
      rw [if_neg hf, if_pos e1, e2]
      simp only [Option.bind_some, counts_eq]
      rw [ew]
      rw [hf', Bool.false_or] at this
      exact this
theorem kP_one {c : List api_Token} {o : Int} (h : kP c o = 1) : fc c = none := by
  have h0 : k0 c = 1 := by
    unfold kP at h
    repeat' split at h
    all_goals first | exact h | omega
  unfold k0 at h0
  rcases hf : fc c with _ | u
  · rfl
  · rw [hf] at h0
    dsimp only at h0
    split at h0 <;> omega
theorem tile_l0 (ns : List Int) (raw : List UInt8) (l : List api_Token) (x : List api_Row) (hs : Sorted l) (hn : l.length ≤ 400) (hx : x.length ≤ 20000) : ∀ (m : Nat) (s p : List api_Token) (n : Int) (d : List api_Row),
    l = p ++ s → x = d ++ goR kP p.length [] n n s → s.length < m → 0 ≤ n ∧ n ≤ (p.length : Int) →
    correctorlaw9_RowsTile_l0 3000 ns raw m l x p.length d.length = some (.inl (l, (l.length : Int))) := by
  intro m
  induction m with
  | zero => intro s p n d h1 h2 h3; omega
  | succ m ih =>
    intro s p n d h1 h2 h3 h4
    have hl : l.length = p.length + s.length := by rw [h1]; simp
    rw [correctorlaw9_RowsTile_l0]
    by_cases hse : s = []
    · subst hse
      rw [if_neg (by rw [h2]; simp [goR])]
      simp only [List.length_nil, Nat.add_zero] at hl
      rw [hl]
    · rw [go_span kP s [] _ _ _ (by simp [hse])] at h2
      obtain ⟨a1, _, a3, _⟩ := span_app s [] n
      have a4 := span_open s [] n p.length (by simpa using h4)
      have a5 : 0 < (span [] n s).1.length := by have := a3 hse; simpa using this
      have a6 := span_end s [] n
      clear a3
      generalize span [] n s = z at *
      obtain ⟨c, n', s'⟩ := z
      dsimp only at *
      simp only [List.nil_append] at a1
      subst a1
      have hl2 : l.length = p.length + c.length + s'.length := by rw [hl]; simp; omega
      have hi := mid_lt d (goR kP ((p.length : Int) + (c.length : Int)) [] n' n' s') ⟨kP c n, (p.length : Int), (p.length : Int) + (c.length : Int), colP c⟩
      have hg := get_mid d (goR kP ((p.length : Int) + (c.length : Int)) [] n' n' s') ⟨kP c n, (p.length : Int), (p.length : Int) + (c.length : Int), colP c⟩
      rw [← h2] at hi hg
      have hw1 : w64 ((d.length : Int) + 1) = (d.length : Int) + 1 := w64_eq (by omega) (by omega)
      have hw2 : w64 ((p.length : Int) + (c.length : Int) - 1) = (p.length : Int) + (c.length : Int) - 1 := w64_eq (by omega) (by omega)
      simp only [if_pos hi.2, if_pos hi, hg, Option.bind_some, hw1, hw2]
      rw [if_pos trivial, if_neg (by omega), if_neg (by omega), if_pos (by omega)]
      obtain ⟨q, t, hqt⟩ : ∃ q t, c = q ++ [t] := by
        rcases List.eq_nil_or_concat c with rfl | ⟨q, t, h⟩
        · simp at a5
        · exact ⟨q, t, by simpa using h⟩
      have hlast : l[((p.length : Int) + (c.length : Int) - 1).toNat]? = some t := by
        have := get_mid2 p q s' t
        rw [show p ++ q ++ t :: s' = l by rw [h1, hqt]; simp] at this
        rw [show (p.length : Int) + (c.length : Int) - 1 = (p.length : Int) + (q.length : Int) by rw [hqt]; simp; omega]
        exact this
      rw [hlast]
      simp only [Option.bind_some]
      have hmid : ((if (d.length : Int) + 1 < (x.length : Int) then
                          if t.Kind = (1 : Int) then
                            some (.inl (l, x))
                          else
                            if t.Kind = (19 : Int) then
                              some (.inl (l, x))
                            else
                              some (.inr false)
                        else
                          some (.inl (l, x))) : Option (Sum ((List api_Token) × (List api_Row)) Bool)) = some (.inl (l, x)) := by
        by_cases hlt : (d.length : Int) + 1 < (x.length : Int)
        · rw [if_pos hlt]
          have : s' ≠ [] := by
            intro e
            subst e
            rw [h2] at hlt
            simp [goR] at hlt
          obtain ⟨q2, t2, e2, e3⟩ := a6 this
          have : t2 = t := by
            rw [hqt] at e2
            have := List.append_inj' e2 (by simp)
            simpa using this.2.symm
          subst this
          have : t2.Kind = 1 ∨ t2.Kind = 19 := by simpa [endK] using e3
          rcases this with e | e
          · rw [if_pos e]
          · rw [if_neg (by omega), if_pos e]
        · rw [if_neg hlt]
      rw [hmid]
      simp only [Option.bind_some, if_pos hi, hg]
      have hcnt := tile_l1 3000 ns raw l x (d.length : Int) _ hi hg (by omega) c [] p s' 3000 (by rw [h1]; simp) (by simp) (by omega)
      simp only [List.length_nil, Int.add_zero, show ((0 : Nat) : Int) = 0 from rfl, List.nil_append, show (fc []).isSome = false from rfl] at hcnt
      rw [hcnt]
      simp only [Option.bind_some, if_pos hi, hg]
      have hsc : Sorted c := by
        have : Sorted l := hs
        rw [h1] at this
        exact (List.pairwise_append.1 (List.pairwise_append.1 this).2.1).1
      have cont : correctorlaw9_RowsTile_l0 3000 ns raw m l x ((p.length : Int) + (c.length : Int)) ((d.length : Int) + 1) = some (.inl (l, (l.length : Int))) := by
        have := ih s' (p ++ c) n' (d ++ [⟨kP c n, (p.length : Int), (p.length : Int) + (c.length : Int), colP c⟩]) (by rw [h1]; simp) (by rw [h2]; simp) (by simp at h3; omega) (by simp; omega)
        have e1 : ((p ++ c).length : Int) = (p.length : Int) + (c.length : Int) := by simp
        have e2 : ((d ++ [(⟨kP c n, (p.length : Int), (p.length : Int) + (c.length : Int), colP c⟩ : api_Row)]).length : Int) = (d.length : Int) + 1 := by simp
        rw [e1, e2] at this
        exact this
      rcases hf : fc c with _ | u
      · have hc := fc_none_col hf
        have : (none : Option api_Token).isSome = false := rfl
        rw [this]
        rw [if_neg (by rw [hc]; omega)]
        simp only [Bool.false_eq_true, if_false]
        by_cases hk : kP c n = 1
        · rw [if_pos hk]; simp only [Option.bind_some, if_pos hi, hg, hw1]; exact cont
        · rw [if_neg hk]; simp only [Option.bind_some, if_pos hi, hg, hw1]; exact cont
      · have hc := fc_col hf hsc
        have hk : kP c n ≠ 1 := fun e => by rw [kP_one e] at hf; cases hf
        rw [if_pos hc]
        simp only [Option.isSome_some, if_true, if_neg hk, Option.bind_some, if_pos hi, hg, hw1]
        exact cont
theorem tile_len (K : List api_Token → Int → Int) : ∀ (s c : List api_Token) (f o n : Int), (goR K f c o n s).length ≤ c.length + s.length := by
  intro s
  induction s with
  | nil =>
    intro c f o n
    rw [goR]
    by_cases h : c = []
    · simp [h]
    · have := List.length_pos_iff.2 h
      rw [if_neg h]; simp; omega
  | cons t s ih =>
    intro c f o n
    rw [goR]
    by_cases h : endK t.Kind = true
    · rw [if_pos h]
      have := ih [] (f + ((c ++ [t]).length : Int)) (brk t.Kind n) (brk t.Kind n)
      simp at this ⊢; omega
    · rw [if_neg h]
      have := ih (c ++ [t]) f o (brk t.Kind n)
      simp at this ⊢; omega
theorem tile_holds (F : Nat) (ns : List Int) (raw : List UInt8) (hF : F = 3000) : correctorlaw9_RowsTile F ns raw = some true := by
  subst hF
  unfold correctorlaw9_RowsTile
  rw [known9]
  simp only [Option.bind_some, if_true]
  obtain ⟨b, hb, hbl⟩ := text_wp ns raw
  rw [hb]
  simp only [Option.bind_some]
  obtain ⟨l, hl, t⟩ := toks_wp b hbl
  rw [hl]
  simp only [Option.bind_some]
  rw [(rows_ref t b).1]
  simp only [Option.bind_some]
  have n1 := tile_len kP l [] 0 0 0
  have k1 := t.len
  simp only [List.length_nil, Nat.zero_add] at n1
  have := tile_l0 ns raw l (goR kP 0 [] 0 0 l) t.sorted k1 (by omega) 3000 l [] 0 [] rfl rfl (by omega) (by simp)
  simp only [List.length_nil, show ((0 : Nat) : Int) = 0 from rfl] at this
  rw [this]
  simp
end Go.Proofs.Ytcnbcimnfeekjaa.M
