/- RowsColumns, plainly. -/
import Derived.Test.YtcnbcimnfeekjaaP9D
import Derived.Test.YtcnbcimnfeekjaaMLC0
namespace Go.Proofs.Ytcnbcimnfeekjaa.M
open Go Am Sy
set_option linter.unusedVariables false
set_option linter.unusedSimpArgs false
set_option maxRecDepth 100000
theorem part_get (P M Q : List UInt8) (C : UInt8 → Prop) (hm : ∀ x ∈ M, C x) (k : Int) (h1 : (P.length : Int) ≤ k) (h2 : k < (P.length : Int) + (M.length : Int)) : ∃ c, (P ++ (M ++ Q))[k.toNat]? = some c ∧ C c := by
  have hj : k.toNat - P.length < M.length := by omega
  refine ⟨M[k.toNat - P.length], ?_, hm _ (List.getElem_mem hj)⟩
  rw [List.getElem?_append_right (by omega), List.getElem?_append_left hj]
  simp [hj]
theorem cols_l0 (F : Nat) (a b : Int) (w : Str) (u v : Int) (z : Str) (hw : w.b.length ≤ 20) : ∀ (m : Nat) (x : Int), 0 ≤ x → x ≤ w.b.length → w.b.length - x < m →
    (∀ k : Int, 0 ≤ k → k < x → ∃ c, w.b[k.toNat]? = some c ∧ 97 ≤ (c.toNat : Int) ∧ (c.toNat : Int) ≤ 122) →
    correctorlaw9_RowsColumns_l0 F a b w m u v z x = some (.inr true) ∨
    (correctorlaw9_RowsColumns_l0 F a b w m u v z x = some (.inl (u, v, z)) ∧ ∀ k : Int, 0 ≤ k → k < w.b.length → ∃ c, w.b[k.toNat]? = some c ∧ 97 ≤ (c.toNat : Int) ∧ (c.toNat : Int) ≤ 122) := by
  intro m
  induction m with
  | zero => intro x h1 h2 h3; omega
  | succ m ih =>
    intro x h1 h2 h3 h4
    rw [correctorlaw9_RowsColumns_l0]
    by_cases hx : x < w.b.length
    · obtain ⟨c, hc⟩ : ∃ c, w.b[x.toNat]? = some c := ⟨w.b[x.toNat]'(by omega), by simp⟩
      simp only [if_pos hx, if_pos h1, hc, Option.bind_some]
      by_cases ha : (c.toNat : Int) < 97
      · rw [if_pos ha]; exact .inl rfl
      · rw [if_neg ha]
        by_cases hb : (122 : Int) < (c.toNat : Int)
        · rw [if_pos hb]; exact .inl rfl
        · rw [if_neg hb, w64_eq (by omega) (by omega)]
          refine ih _ (by omega) (by omega) (by omega) ?_
          intro k k1 k2
          by_cases hk : k = x
          · subst hk; exact ⟨c, hc, by omega, by omega⟩
          · exact h4 k k1 (by omega)
    · rw [if_neg hx]
      exact .inr ⟨rfl, fun k k1 k2 => h4 k k1 (by omega)⟩
def L5 : List api_Token := [⟨15, 0, 1⟩, ⟨6, 1, 2⟩, ⟨3, 2, 3⟩, ⟨15, 3, 4⟩, ⟨1, 4, 5⟩]
theorem toks_col (S T W : List UInt8) (hS : ∀ x ∈ S, (x.toNat : Int) = 32) (hT : ∀ x ∈ T, (x.toNat : Int) = 9) (hW : ∀ x ∈ W, 97 ≤ (x.toNat : Int) ∧ (x.toNat : Int) ≤ 122)
    (hs : S.length ≤ 9) (ht : T.length ≤ 4) (hw : W.length ≤ 20) (hw0 : 0 < W.length) :
    ∃ l r0 r1, correctorref6_Tokens 3000 ([120, 58, 32, 49, 10] ++ (S ++ T) ++ W) = some l ∧ goR kP 0 [] 0 0 l = [r0, r1] ∧ r1.Col = (S.length : Int) + (T.length : Int) ∧ r1.Kind = 5 := by
  generalize hB : ([120, 58, 32, 49, 10] : List UInt8) ++ (S ++ T) ++ W = B
  have hn : B.length = 5 + S.length + T.length + W.length := by rw [← hB]; simp; omega
  have b0 : B[(0 : Int).toNat]? = some 120 := by rw [← hB]; rfl
  have b1 : B[(1 : Int).toNat]? = some 58 := by rw [← hB]; rfl
  have b2 : B[(2 : Int).toNat]? = some 32 := by rw [← hB]; rfl
  have b3 : B[(3 : Int).toNat]? = some 49 := by rw [← hB]; rfl
  have b4 : B[(4 : Int).toNat]? = some 10 := by rw [← hB]; rfl
  have gS : ∀ k : Int, 5 ≤ k → k < 5 + (S.length : Int) → ∃ c, B[k.toNat]? = some c ∧ (c.toNat : Int) = 32 := by
    intro k k1 k2
    have := part_get [120, 58, 32, 49, 10] S (T ++ W) _ hS k (by simpa using k1) (by simpa using k2)
    rw [show ([120, 58, 32, 49, 10] : List UInt8) ++ (S ++ (T ++ W)) = B by rw [← hB]; simp] at this
    exact this
  have gT : ∀ k : Int, 5 + (S.length : Int) ≤ k → k < 5 + (S.length : Int) + (T.length : Int) → ∃ c, B[k.toNat]? = some c ∧ (c.toNat : Int) = 9 := by
    intro k k1 k2
    have := part_get ([120, 58, 32, 49, 10] ++ S) T W _ hT k (by simp; omega) (by simp; omega)
    rw [show ([120, 58, 32, 49, 10] : List UInt8) ++ S ++ (T ++ W) = B by rw [← hB]; simp] at this
    exact this
  have gW : ∀ k : Int, 5 + (S.length : Int) + (T.length : Int) ≤ k → k < (B.length : Int) → ∃ c, B[k.toNat]? = some c ∧ 97 ≤ (c.toNat : Int) ∧ (c.toNat : Int) ≤ 122 := by
    intro k k1 k2
    have := part_get ([120, 58, 32, 49, 10] ++ S ++ T) W [] _ hW k (by simp; omega) (by simp; omega)
    rw [show ([120, 58, 32, 49, 10] : List UInt8) ++ S ++ T ++ (W ++ []) = B by rw [← hB]; simp] at this
    exact this
  have s0 : S5 B 0 0 [] (⟨B, 0, 0, 0, (-1), true, (-2), []⟩ : correctorref6_scanner) := ⟨rfl, rfl, rfl, rfl, rfl, rfl⟩
  have one : ∀ (i : Int) (C : UInt8 → Prop) (c : UInt8), B[i.toNat]? = some c → C c → ∀ k : Int, i ≤ k → k < i + 1 → ∃ c, B[k.toNat]? = some c ∧ C c := by
    intro i C c h1 h2 k k1 k2
    have : k = i := by omega
    subst this; exact ⟨c, h1, h2⟩
  obtain ⟨s1, t1, n1⟩ := step_plain 3000 s0 (by simp) 1 (by omega) (by omega) (by omega) (by omega) (by omega) (one 0 Lo 120 b0 (.inl ⟨by decide, by decide⟩)) (.inr (.inr ⟨58, 32, b1, rfl, b2, rfl⟩))
  obtain ⟨s2, t2, n2⟩ := step_colon 3000 t1 (by simp) (by omega) b1 rfl b2 rfl (by omega) (by omega)
  obtain ⟨s3, t3, n3⟩ := step_blank 3000 t2 (by simp) 3 (by omega) (by omega) (by omega) (by omega) (by omega) (one 2 (fun c => (c.toNat : Int) = 32 ∨ (c.toNat : Int) = 9) 32 b2 (.inl rfl)) ⟨49, b3, by decide, by decide⟩ (.inl (by omega))
  obtain ⟨s4, t4, n4⟩ := step_plain 3000 t3 (by simp) 4 (by omega) (by omega) (by omega) (by omega) (by omega) (one 3 Lo 49 b3 (.inr rfl)) (.inr (.inl ⟨10, b4, rfl⟩))
  obtain ⟨s5, t5, n5⟩ := step_break 3000 t4 (by simp) (by omega) b4 rfl (by omega)
  have t5' : S5 B 5 5 L5 s5 := t5
  have fin : ∀ (L : List api_Token) (s : correctorref6_scanner) (m : Nat), S5 B (5 + (S.length : Int) + (T.length : Int)) 5 L s → L.length ≤ 7 → correctorref6_Tokens_l0 3000 B 2995 s5 = correctorref6_Tokens_l0 3000 B (m + 2) s →
      correctorref6_Tokens 3000 B = some (L ++ [⟨15, 5 + (S.length : Int) + (T.length : Int), (B.length : Int)⟩]) := by
    intro L s m hS5 hL heq
    obtain ⟨s6, t6, n6⟩ := step_plain 3000 hS5 (by omega) (B.length : Int) (by omega) (by omega) (by omega) (by omega) (by omega) (fun k k1 k2 => by obtain ⟨c, h1, h2⟩ := gW k k1 k2; exact ⟨c, h1, .inl h2⟩) (.inl rfl)
    unfold correctorref6_Tokens
    rw [if_neg (by omega)]
    unfold correctorref6_scanner_next
    simp only [Option.bind_some]
    rw [show (3000 : Nat) = 2999 + 1 from rfl] at n1 n2 n3 n4 n5 n6 heq ⊢
    have : correctorref6_Tokens_l0 (2999 + 1) B (2999 + 1) (⟨B, 0, 0, 0, (-1), true, (-2), []⟩ : correctorref6_scanner) = some s6 := by
      rw [n1, n2, n3, n4, n5, heq, n6, correctorref6_Tokens_l0, if_neg (by rw [t6.a]; omega)]
    rw [this]
    simp only [Option.bind_some, t6.l]
  by_cases hS0 : S.length = 0
  · by_cases hT0 : T.length = 0
    · have := fin L5 s5 2993 (by rw [hS0, hT0]; exact t5') (by decide) rfl
      refine ⟨_, _, _, this, rfl, ?_, rfl⟩
      show 5 + (S.length : Int) + (T.length : Int) - (5 + (S.length : Int) + (T.length : Int)) = _
      omega
    · obtain ⟨s6, t6, n6⟩ := step_blank 3000 t5' (by decide) (5 + (S.length : Int) + (T.length : Int)) (by omega) (by omega) (by omega) (by omega) (by omega) (fun k k1 k2 => by obtain ⟨c, h1, h2⟩ := gT k (by omega) k2; exact ⟨c, h1, .inr h2⟩)
        (by obtain ⟨c, h1, h2⟩ := gW _ (Int.le_refl _) (by omega); exact ⟨c, h1, by omega, by omega⟩) (.inr (gT 5 (by omega) (by omega)))
      have := fin _ s6 2992 t6 (by simp [L5]) (n6 2994)
      refine ⟨_, _, _, this, rfl, ?_, rfl⟩
      show 5 + (S.length : Int) + (T.length : Int) - 5 = _
      omega
  · obtain ⟨s6, t6, n6⟩ := step_indent 3000 t5' (by decide) (5 + (S.length : Int)) (by omega) (by omega) (by omega) (by omega) (by omega) (fun k k1 k2 => gS k k1 k2)
        (by
          by_cases hT0 : T.length = 0
          · obtain ⟨c, h1, h2⟩ := gW (5 + (S.length : Int)) (by omega) (by omega); exact ⟨c, h1, by omega⟩
          · obtain ⟨c, h1, h2⟩ := gT (5 + (S.length : Int)) (by omega) (by omega); exact ⟨c, h1, by omega⟩)
    by_cases hT0 : T.length = 0
    · have := fin _ s6 2992 (by rw [hT0]; simpa using t6) (by simp [L5]) (n6 2994)
      refine ⟨_, _, _, this, rfl, ?_, rfl⟩
      show 5 + (S.length : Int) + (T.length : Int) - 5 = _
      omega
    · obtain ⟨s7, t7, n7⟩ := step_blank 3000 t6 (by simp [L5]) (5 + (S.length : Int) + (T.length : Int)) (by omega) (by omega) (by omega) (by omega) (by omega) (fun k k1 k2 => by obtain ⟨c, h1, h2⟩ := gT k k1 k2; exact ⟨c, h1, .inr h2⟩)
        (by obtain ⟨c, h1, h2⟩ := gW _ (Int.le_refl _) (by omega); exact ⟨c, h1, by omega, by omega⟩) (.inl (by omega))
      have := fin _ s7 2991 t7 (by simp [L5]) ((n6 2994).trans (n7 2993))
      refine ⟨_, _, _, this, rfl, ?_, rfl⟩
      show 5 + (S.length : Int) + (T.length : Int) - 5 = _
      omega
theorem columns_holds (F : Nat) (a b : Int) (w : Str) (hF : F = 3000) : correctorlaw9_RowsColumns F a b w = some true := by
  subst hF
  unfold correctorlaw9_RowsColumns
  rw [known9]
  simp only [Option.bind_some, if_true]
  rw [within9_eq _ _ _ (by decide) (by decide), within9_eq _ _ _ (by decide) (by decide)]
  simp only [Option.bind_some]
  obtain ⟨a1, a2⟩ := wi_range a 9 (by decide)
  obtain ⟨b1, b2⟩ := wi_range b 4 (by decide)
  generalize wi a 9 = u at *
  generalize wi b 4 = v at *
  rw [if_pos ⟨by omega, by omega, by simp; omega⟩, if_pos ⟨by omega, by omega, by simp; omega⟩]
  generalize hS : (([32, 32, 32, 32, 32, 32, 32, 32, 32] : List UInt8).take u.toNat).drop (0 : Int).toNat = S
  generalize hT : (([9, 9, 9, 9] : List UInt8).take v.toNat).drop (0 : Int).toNat = T
  have lS : (S.length : Int) = u := by rw [← hS]; simp; omega
  have lT : (T.length : Int) = v := by rw [← hT]; simp; omega
  have mS : ∀ x ∈ S, (x.toNat : Int) = 32 := by
    intro x hx
    rw [← hS] at hx
    have := List.mem_of_mem_take (List.mem_of_mem_drop hx)
    simp at this; subst this; rfl
  have mT : ∀ x ∈ T, (x.toNat : Int) = 9 := by
    intro x hx
    rw [← hT] at hx
    have := List.mem_of_mem_take (List.mem_of_mem_drop hx)
    simp at this; subst this; rfl
  rw [if_pos (by omega)]
  by_cases hw0 : w = (⟨[]⟩ : Str)
  · rw [if_pos hw0]
  · rw [if_neg hw0]
    by_cases hw20 : (20 : Int) < w.b.length
    · rw [if_pos hw20]
    · rw [if_neg hw20]
      have hpos : 0 < w.b.length := by
        cases w with
        | mk wb =>
          cases wb with
          | nil => exact absurd rfl hw0
          | cons x y => simp
      rcases cols_l0 3000 a b w u v ⟨S ++ T⟩ (by omega) 3000 0 (by omega) (by omega) (by omega) (fun k k1 k2 => by omega) with h | ⟨h, hl⟩
      · rw [h]; rfl
      · rw [h]
        simp only [Option.bind_some]
        rw [if_pos (by simp; omega), if_pos (by simp; omega)]
        have mW : ∀ x ∈ w.b, 97 ≤ (x.toNat : Int) ∧ (x.toNat : Int) ≤ 122 := by
          intro x hx
          obtain ⟨k, hk, rfl⟩ := List.getElem_of_mem hx
          obtain ⟨c, hc, h2⟩ := hl (k : Int) (by omega) (by omega)
          have : w.b[((k : Int)).toNat]? = some w.b[k] := by simp [hk]
          rw [this] at hc; injection hc with hc; subst hc; exact h2
        obtain ⟨l, r0, r1, q1, q2, q3, q4⟩ := toks_col S T w.b mS mT mW (by omega) (by omega) (by omega) hpos
        obtain ⟨l', hl', tk⟩ := toks_wp ([120, 58, 32, 49, 10] ++ (S ++ T) ++ w.b) (by simp; omega)
        rw [q1] at hl'; injection hl' with hl'; subst hl'
        rw [q1]
        simp only [Option.bind_some]
        rw [(rows_ref tk _).1, q2]
        simp only [Option.bind_some]
        rw [if_pos (by rfl), if_pos (by simp)]
        have g1 : [r0, r1][(1 : Int).toNat]? = some r1 := rfl
        rw [g1]
        simp only [Option.bind_some]
        rw [if_pos (by rw [q3, w64_eq (by omega) (by omega)]; omega), if_pos (by simp), if_pos q4]
end Go.Proofs.Ytcnbcimnfeekjaa.M
