/- The scanner, plainly: words; all tokens. -/
import Derived.Test.YtahcngeimlkcgaaP9V
namespace Go.Proofs.Ytahcngeimlkcgaa.M
open Go Am Sy
set_option linter.unusedVariables false
set_option linter.unusedSimpArgs false
set_option maxRecDepth 100000
theorem word_wp (F : Nat) (B : List UInt8) (s : correctorref6_scanner) (h : SI F B s) (hx : s.At < B.length) (hn : B.length ≤ 20000) (hF : B.length + 10 < F)
  (hb0 : Wp (correctorref2_Break F B s.At) (fun b => b = 0)) : Wp (correctorref6_scanner_word F s) (fun r => SI F B r ∧ s.At < r.At) := by
 have hb := h.b
 have hr := h.r
 have hc := h.noC hx hb0
 have e1 : w64 (s.At + 1) = s.At + 1 := w64_eq (by omega) (by omega)
 have T : ∀ k to, k ≠ 2 ∧ k ≠ 4 ∧ k ≠ 20 ∧ k ≠ 21 → s.At < to → to ≤ B.length → Wp (correctorref6_scanner_add F s k to) (fun r => Wp (some r) (fun r => SI F B r ∧ s.At < r.At)) :=
  fun k to hk h1 h2 => (tok_wp h hn k to h1 h2 (by omega) (fun _ => hc) (by omega)).mono (fun r hr => wpS ⟨hr.1, by omega⟩)
 have RE : Wp (correctorref6_scanner_rowEnd F s s.At) (fun e => s.At < e ∧ e ≤ B.length) := by
  have := rowEnd_wp F s s.At (by rw [hb]; omega) (by rw [hb]; exact hn) (by rw [hb]; omega)
  rw [hb] at this
  refine this.mono ?_
  rintro e ⟨q1, q2, q3⟩
  refine ⟨?_, q2⟩
  rcases q3 with q3 | ⟨b', q3, q4⟩
  ·omega
  ·by_cases hh : e = s.At
   ·obtain ⟨b, g1, g2⟩ := hb0
    rw [hh, g1] at q3; injection q3; omega
   ·omega
 unfold correctorref6_scanner_word
 rw [hb, e1]
 refine wpI ?_ ?_ <;> intro hy
 ·refine wpB (wpG hy ?_)
  intro c _
  refine wpI ?_ ?_ <;> intro hz
  ·refine wpB ((next_wp F _ (by simp; omega) (by omega)).mono ?_)
   intro rn _
   refine wpB ((names_wp F s (s.At + 1) false (by rw [hb]; omega) (by rw [hb]; exact hn) (by rw [hb]; omega)).mono ?_)
   rintro nm ⟨m1, m2⟩
   rw [hb] at m2
   refine wpB ?_
   refine Wp.mono (P := fun _ => True) ?_ ?_
   ·(repeat' (first | with_reducible refine wpB ?_ | (with_reducible refine wpI ?_ ?_ <;> intro _) | (with_reducible refine wpG (by assumption) ?_; intro _ _) | with_reducible refine wpS ?_ | (with_reducible refine wpN ?_; omega) | dsimp only))
    refine (ended_wp _ _ _ (by omega) (by rw [hb]; exact hn)).mono ?_
    intro r _
    (repeat' (first | with_reducible refine wpB ?_ | (with_reducible refine wpI ?_ ?_ <;> intro _) | (with_reducible refine wpG (by assumption) ?_; intro _ _) | with_reducible refine wpS ?_ | (with_reducible refine wpN ?_; omega) | dsimp only))
   intro f1 _
   refine wpI ?_ ?_ <;> intro _
   ·exact wpB (T 5 _ (by omega) (by omega) (by omega))
   refine wpB ((colon_wp F s s.At (by omega) (by rw [hb]; exact hn)).mono ?_)
   intro f2 _
   refine wpI ?_ ?_ <;> intro _
   ·exact wpB (T 6 _ (by omega) (by omega) (by omega))
   refine wpB ?_
   refine Wp.mono (P := fun r => True) ?_ ?_
   ·(repeat' (first | with_reducible refine wpB ?_ | (with_reducible refine wpI ?_ ?_ <;> intro _) | (with_reducible refine wpG (by assumption) ?_; intro _ _) | with_reducible refine wpS ?_ | (with_reducible refine wpN ?_; omega) | dsimp only))
   intro f3 _
   refine wpI ?_ ?_ <;> intro _
   ·exact wpB (T 12 _ (by omega) (by omega) (by omega))
   refine wpB ?_
   refine Wp.mono (P := fun r => True) ?_ ?_
   ·(repeat' (first | with_reducible refine wpB ?_ | (with_reducible refine wpI ?_ ?_ <;> intro _) | (with_reducible refine wpG (by assumption) ?_; intro _ _) | with_reducible refine wpS ?_ | (with_reducible refine wpN ?_; omega) | dsimp only))
   intro f4 _
   refine wpI ?_ ?_ <;> intro _
   ·exact wpB (T 13 _ (by omega) (by omega) (by omega))
   refine wpI ?_ ?_ <;> intro _
   ·refine wpB ((names_wp F s (s.At + 1) true (by rw [hb]; omega) (by rw [hb]; exact hn) (by rw [hb]; omega)).mono ?_)
    rintro nm2 ⟨m3, m4⟩
    rw [hb] at m4
    exact wpB (T 14 _ (by omega) (by omega) (by omega))
   refine wpI ?_ ?_ <;> intro _
   ·refine wpB (RE.mono ?_)
    rintro e ⟨q1, q2⟩
    refine wpB ((single_wp F s (s.At + 1) e (by rw [hb]; omega) (by rw [hb]; exact hn) (by rw [hb]; omega)).mono ?_)
    rintro e' ⟨q3, q4⟩
    exact wpB (T 16 _ (by omega) (by omega) (by omega))
   refine wpI ?_ ?_ <;> intro _
   ·obtain ⟨e, he, q1, q2⟩ := RE
    refine wpB (wpE he ?_)
    refine wpB ((double_wp F s (s.At + 1) e (by rw [hb]; omega) (by rw [hb]; exact hn) (by rw [hb]; omega)).mono ?_)
    intro e' q3
    refine wpB (wpE he ?_)
    exact wpB (T 17 _ (by omega) (by unfold imin; split <;> omega) (by unfold imin; split <;> omega))
   have HD := head_wp F s (by rw [hb]; omega) (by rw [hb]; exact hn) (by rw [hb]; omega)
   obtain ⟨hd, hh, q1, q2⟩ := HD
   rw [hb] at q2
   refine wpB (wpE hh ?_)
   refine wpI ?_ ?_ <;> intro hpos
   ·have fin : ∀ t : Int, Wp ((correctorref6_scanner_head F (⟨B, s.At, s.Row, s.Open, s.Base, s.Only, t, s.L⟩ : correctorref6_scanner)).bind fun r9012 =>
      (correctorref6_scanner_add F (⟨B, s.At, s.Row, s.Open, s.Base, s.Only, t, s.L⟩ : correctorref6_scanner) 18 (w64 (s.At + r9012))).bind fun r9023 => some r9023) (fun r => SI F B r ∧ s.At < r.At) := by
     intro t
     have hs : correctorref6_scanner_head F (⟨B, s.At, s.Row, s.Open, s.Base, s.Only, t, s.L⟩ : correctorref6_scanner) = correctorref6_scanner_head F s := by
      have l0 : ∀ m x y, correctorref6_scanner_head_l0 F (⟨B, s.At, s.Row, s.Open, s.Base, s.Only, t, s.L⟩ : correctorref6_scanner) m x y = correctorref6_scanner_head_l0 F s m x y := by
       intro m
       induction m with
       | zero => intro x y; rfl
       | succ m ih =>
        intro x y
        rw [correctorref6_scanner_head_l0, correctorref6_scanner_head_l0]
        simp only [ih, hb]
      unfold correctorref6_scanner_head
      simp only [l0, hb, correctorref6_scanner_byteAt]
     rw [hs]
     refine wpB (wpE hh ?_)
     rw [w64_eq (by omega) (by omega)]
     have h' : SI F B (⟨B, s.At, s.Row, s.Open, s.Base, s.Only, t, s.L⟩ : correctorref6_scanner) := by
      have := h.re s.Open s.Base t s.Only h.o
      rw [hb] at this; exact this
     refine wpB ((tok_wp h' hn 18 (s.At + hd) (by dsimp only; omega) (by omega) (by omega) (fun _ => hc) (by omega)).mono ?_)
     rintro r ⟨r1, r2, _⟩
     exact wpS ⟨r1, by omega⟩
    refine wpB ?_
    refine wpI ?_ ?_ <;> intro _
    ·exact wpS (fin _)
    ·exact wpS (fin _)
   refine wpI ?_ ?_ <;> intro _
   ·exact wpB (T 22 _ (by omega) (by omega) (by omega))
   ·have := plain_wp F s (by rw [hb]; omega) (by rw [hb]; exact hn) (by rw [hb]; omega)
    rw [hb] at this
    refine wpB (this.mono ?_)
    rintro e ⟨p1, p2⟩
    exact wpB (T 15 _ (by omega) p1 p2)
  ·omega
 ·omega
theorem tokens_l0_wp (F : Nat) (B : List UInt8) (hn : B.length ≤ 20000) (hF : B.length + 10 < F) : ∀ (m : Nat) (s : correctorref6_scanner), SI F B s → B.length - s.At < m →
  Wp (correctorref6_Tokens_l0 F B m s) (fun r => SI F B r ∧ r.At = B.length) := by
 intro m
 induction m with
 | zero => intro s h1 h2; have := h1.r; omega
 | succ m ih =>
  intro s h1 h2
  have hb := h1.b
  have hr := h1.r
  rw [correctorref6_Tokens_l0]
  refine wpI ?_ ?_ <;> intro hx
  ·refine wpB ?_
   refine Wp.mono (P := fun r => r.1 = s ∧ (0 < r.2 → s.At = s.Row ∧ (r.2 = 20 ∨ r.2 = 21) ∧ s.At + 3 ≤ B.length)) ?_ ?_
   ·refine wpI ?_ ?_ <;> intro hro
    ·refine wpB ((mark_wp F s s.At (by rw [hb]; omega) (by rw [hb]; exact hn)).mono ?_)
     intro k hk
     rw [hb] at hk
     exact wpS ⟨rfl, fun hp => ⟨hro, by dsimp only at hp; dsimp only; omega, by dsimp only at hp; omega⟩⟩
    ·exact wpS ⟨rfl, fun hp => by dsimp only at hp; omega⟩
   rintro ⟨s', k⟩ ⟨p1, p2⟩
   dsimp only at p1 p2 ⊢
   subst p1
   refine wpI ?_ ?_ <;> intro hk
   ·obtain ⟨k1, k2, k3⟩ := p2 hk
    rw [w64_eq (by omega) (by omega)]
    refine wpB ((tok_wp h1 hn k (s'.At + 3) (by omega) k3 (fun _ => k1) (fun _ => (h1.w k1).noC) (by omega)).mono ?_)
    rintro r ⟨r1, r2, r3, r4, _⟩
    have ho := h1.o
    exact ih _ (r1.re _ _ _ _ (by omega)) (by dsimp only; omega)
   ·refine wpB ((space_wp F B s' h1 hx hn hF).mono ?_)
    rintro ⟨f, s1⟩ (⟨q1, q2, q3⟩ | ⟨q1, q2, q3⟩)
    ·dsimp only at q1 q2 q3 ⊢
     rw [if_pos q1]
     exact ih _ q2 (by omega)
    ·dsimp only at q1 q2 q3 ⊢
     subst q1 q2
     rw [if_neg (by decide)]
     refine wpB ((bracket_wp F B s1 h1 hx hn (h1.noC hx q3)).mono ?_)
     rintro ⟨f, s2⟩ (⟨q1, q2, q4⟩ | ⟨q1, q2⟩)
     ·dsimp only at q1 q2 q4 ⊢
      rw [if_pos q1]
      exact ih _ q2 (by omega)
     ·dsimp only at q1 q2 ⊢
      subst q1 q2
      rw [if_neg (by decide)]
      refine wpB ((word_wp F B s2 h1 hx hn hF q3).mono ?_)
      rintro r ⟨r1, r2⟩
      exact ih _ r1 (by omega)
  ·exact wpS ⟨h1, by omega⟩
theorem tokens_wp (F : Nat) (B : List UInt8) (hn : B.length ≤ 16384) (hF : B.length + 10 < F) : Wp (correctorref6_Tokens F B) (fun l => Tk B.length l B.length) := by
 unfold correctorref6_Tokens
 refine wpI ?_ ?_ <;> intro hx
 ·omega
 ·refine wpB (wpS ?_)
  have h0 : SI F B (⟨B, 0, 0, 0, (-1), true, (-2), []⟩ : correctorref6_scanner) :=
   ⟨rfl, by dsimp only; omega, by dsimp only; omega, .nil, fun _ => .inl rfl, fun q => absurd q (Ends.noC (.inl rfl))⟩
  refine wpB ((tokens_l0_wp F B (by omega) hF F _ h0 (by dsimp only; omega)).mono ?_)
  rintro r ⟨r1, r2⟩
  refine wpS ?_
  have := r1.t
  rw [r2] at this; exact this
end Go.Proofs.Ytahcngeimlkcgaa.M
