/- The scanner, plainly: rows of a block text, what does not count, brackets. -/
import Derived.Test.YtahcngeimlkcgaaP9U
namespace Go.Proofs.Ytahcngeimlkcgaa.M
open Go Am Sy
set_option linter.unusedVariables false
set_option linter.unusedSimpArgs false
set_option maxRecDepth 100000
theorem lastK_ends {l : List api_Token} {k : Int} (h : LastK l k) (hk : k = 1 ∨ k = 19) : Ends l := by
 obtain ⟨p, t, rfl, h⟩ := h
 exact .inr ⟨p, t, rfl, by omega⟩
theorem texts_l1_wp (F : Nat) (a s : correctorref6_scanner) (e : Int) (hn : s.B.length ≤ 20000) (he : e ≤ s.B.length) : ∀ (m : Nat) (x : Int), 0 ≤ x → x ≤ e → e - x < m →
  Wp (correctorref6_scanner_texts_l1 F a m s e x) (fun r => r.1 = s ∧ r.2.1 = e ∧ x ≤ r.2.2 ∧ r.2.2 ≤ e) := by
 intro m
 induction m with
 | zero => intro x h1 h2 h3; omega
 | succ m ih =>
  intro x h1 h2 h3
  rw [correctorref6_scanner_texts_l1]
  refine wpI ?_ ?_ <;> intro hx
  ·rw [w64_eq (by omega) (by omega)]
   (repeat' (first | with_reducible refine wpB ?_ | (with_reducible refine wpI ?_ ?_ <;> intro _) | (with_reducible refine wpG (by assumption) ?_; intro _ _) | with_reducible refine wpS ?_ | (with_reducible refine wpN ?_; omega) | dsimp only))
   ·refine (ih _ (by omega) (by omega) (by omega)).mono ?_
    intro r hr; exact ⟨hr.1, hr.2.1, by omega, hr.2.2.2⟩
   ·exact ⟨rfl, rfl, Int.le_refl _, h2⟩
  ·exact wpS ⟨rfl, rfl, Int.le_refl _, h2⟩
theorem texts_l2_wp (F : Nat) (a s : correctorref6_scanner) (e n0 : Int) (hn : s.B.length ≤ 20000) (he : e ≤ s.B.length) : ∀ (m : Nat) (x : Int), 0 ≤ x → x ≤ e → e - x < m →
  Wp (correctorref6_scanner_texts_l2 F a m s e n0 x) (fun r => r.1 = s ∧ r.2.1 = e ∧ r.2.2.1 = n0 ∧ x ≤ r.2.2.2 ∧ r.2.2.2 ≤ e) := by
 intro m
 induction m with
 | zero => intro x h1 h2 h3; omega
 | succ m ih =>
  intro x h1 h2 h3
  rw [correctorref6_scanner_texts_l2]
  refine wpI ?_ ?_ <;> intro hx
  ·rw [w64_eq (by omega) (by omega)]
   (repeat' (first | with_reducible refine wpB ?_ | (with_reducible refine wpI ?_ ?_ <;> intro _) | (with_reducible refine wpG (by assumption) ?_; intro _ _) | with_reducible refine wpS ?_ | (with_reducible refine wpN ?_; omega) | dsimp only))
   refine (blank_wp _ _).mono ?_
   intro r _
   (repeat' (first | with_reducible refine wpB ?_ | (with_reducible refine wpI ?_ ?_ <;> intro _) | (with_reducible refine wpG (by assumption) ?_; intro _ _) | with_reducible refine wpS ?_ | (with_reducible refine wpN ?_; omega) | dsimp only))
   ·refine (ih _ (by omega) (by omega) (by omega)).mono ?_
    intro r hr; exact ⟨hr.1, hr.2.1, hr.2.2.1, by omega, hr.2.2.2.2⟩
   ·exact ⟨rfl, rfl, rfl, Int.le_refl _, h2⟩
  ·exact wpS ⟨rfl, rfl, rfl, Int.le_refl _, h2⟩
theorem texts_wp (F : Nat) (B : List UInt8) (a : correctorref6_scanner) (h : SI F B a) (he : Ends a.L) (hn : B.length ≤ 20000) (hF : B.length + 10 < F) :
  Wp (correctorref6_scanner_texts F a) (fun r => SI F B r ∧ a.At ≤ r.At) := by
 have key : ∀ (m : Nat) (s : correctorref6_scanner), SI F B s → Ends s.L → a.At ≤ s.At → B.length - s.At < m →
   Wp (correctorref6_scanner_texts_l0 F a m s) (fun r => ∃ q, (r = .inl q ∨ r = .inr q) ∧ SI F B q ∧ a.At ≤ q.At) := by
  intro m
  induction m with
  | zero => intro s h1 h2 h3 h4; have := h1.r; omega
  | succ m ih =>
   intro s h1 h2 h3 h4
   have hb := h1.b
   have hr := h1.r
   rw [correctorref6_scanner_texts_l0, hb]
   refine wpI ?_ ?_ <;> intro hx
   ·refine wpB ((mark_wp F s s.At (by rw [hb]; omega) (by rw [hb]; exact hn)).mono ?_)
    intro mk _
    refine wpI ?_ ?_ <;> intro hm
    ·refine wpB ((rowEnd_wp F s s.At (by rw [hb]; omega) (by rw [hb]; exact hn) (by rw [hb]; omega)).mono ?_)
     rintro e ⟨e1, e2, e3⟩
     rw [hb] at e2 e3
     refine wpB ((texts_l1_wp F a s e (by rw [hb]; exact hn) (by rw [hb]; omega) F s.At (by omega) (by omega) (by omega)).mono ?_)
     rintro ⟨s1, e', n1⟩ ⟨q1, q2, q3, q4⟩
     dsimp only at q1 q2 q3 q4 ⊢
     subst q1 q2
     refine wpB ((texts_l2_wp F a s1 e' n1 (by rw [hb]; exact hn) (by rw [hb]; omega) F n1 (by omega) (by omega) (by omega)).mono ?_)
     rintro ⟨s2, e2', n2, m2⟩ ⟨p1, p2, p3, p4, p5⟩
     dsimp only at p1 p2 p3 p4 p5 ⊢
     subst p1 p2 p3
     refine wpB ?_
     refine Wp.mono (P := fun r => r = .inl s2 ∨ r = .inr s2) ?_ ?_
     ·(repeat' (first | with_reducible refine wpB ?_ | (with_reducible refine wpI ?_ ?_ <;> intro _) | (with_reducible refine wpG (by assumption) ?_; intro _ _) | with_reducible refine wpS ?_ | (with_reducible refine wpN ?_; omega) | dsimp only))
      all_goals first | exact .inl rfl | exact .inr rfl
     rintro r (rfl | rfl)
     ·dsimp only
      rw [hb]
      refine wpB ?_
      obtain ⟨b, hbr, b1, b2⟩ := break_wp F B e2' (by omega) hn
      refine (wpE hbr ?_)
      have h3' : s2.At < e2' + b := by
       rcases e3 with e3 | ⟨b', e3, e4⟩
       ·omega
       ·rw [hbr] at e3; injection e3; omega
      have hto : e2' + b ≤ B.length := by
       by_cases hz : 0 < b
       ·exact b2 hz
       ·omega
      rw [w64_eq (by omega) (by omega)]
      refine wpB ((tok_wp h1 hn 19 (e2' + b) h3' hto (by omega) (fun _ => h2.noC) (by omega)).mono ?_)
      rintro r ⟨r1, r2, r3, r4, r5⟩
      refine wpB (wpS ?_)
      exact ih _ (r1.row (lastK_ends r5 (.inr rfl)) _ _ _) (lastK_ends r5 (.inr rfl)) (by dsimp only; omega) (by dsimp only; omega)
     ·exact wpS ⟨s2, .inr rfl, h1, h3⟩
    ·exact wpS ⟨s, .inl rfl, h1, h3⟩
   ·exact wpS ⟨s, .inl rfl, h1, h3⟩
 unfold correctorref6_scanner_texts
 refine wpB ((key F _ (h.re a.Open a.Base (-2) a.Only h.o) he (Int.le_refl _) (by have := h.r; dsimp only; omega)).mono ?_)
 rintro r ⟨q, rfl | rfl, h1, h2⟩
 ·exact wpS ⟨h1, h2⟩
 ·exact wpS ⟨h1, h2⟩
theorem space_l0_wp (F : Nat) (s : correctorref6_scanner) (hn : s.B.length ≤ 20000) : ∀ (m : Nat) (x : Int), 0 ≤ x → x ≤ s.B.length → s.B.length - x < m →
  Wp (correctorref6_scanner_space_l0 F s m x) (fun r => x ≤ r ∧ r ≤ s.B.length ∧ (∀ c, s.B[x.toNat]? = some c → (c.toNat : Int) = 32 → x < r)) := by
 intro m
 induction m with
 | zero => intro x h1 h2 h3; omega
 | succ m ih =>
  intro x h1 h2 h3
  rw [correctorref6_scanner_space_l0]
  refine wpI ?_ ?_ <;> intro hx
  ·rw [w64_eq (by omega) (by omega)]
   refine wpI ?_ ?_ <;> intro hy
   ·refine wpB (wpG hy ?_)
    intro c hc
    refine wpI ?_ ?_ <;> intro hz
    ·refine (ih _ (by omega) (by omega) (by omega)).mono ?_
     intro r hr
     exact ⟨by omega, hr.2.1, fun _ _ _ => by omega⟩
    ·refine wpS ⟨Int.le_refl _, h2, ?_⟩
     intro c' hc' h'
     rw [hc] at hc'; injection hc' with hc'; subst hc'; exact absurd h' hz
   ·omega
  ·refine wpS ⟨Int.le_refl _, h2, ?_⟩
   intro c' hc' h'
   have : s.B[x.toNat]? = none := by simp; omega
   rw [this] at hc'; cases hc'
theorem space_l1_wp (F : Nat) (s : correctorref6_scanner) (hn : s.B.length ≤ 20000) : ∀ (m : Nat) (x : Int), 0 ≤ x → x ≤ s.B.length → s.B.length - x < m →
  Wp (correctorref6_scanner_space_l1 F s m x) (fun r => x ≤ r ∧ r ≤ s.B.length ∧ (∀ c, s.B[x.toNat]? = some c → correctorref5_Blank F (c.toNat : Int) = some true → x < r)) := by
 intro m
 induction m with
 | zero => intro x h1 h2 h3; omega
 | succ m ih =>
  intro x h1 h2 h3
  rw [correctorref6_scanner_space_l1]
  refine wpI ?_ ?_ <;> intro hx
  ·rw [w64_eq (by omega) (by omega)]
   refine wpI ?_ ?_ <;> intro hy
   ·refine wpB (wpG hy ?_)
    intro c hc
    obtain ⟨bl, hbl, _⟩ := blank_wp F (c.toNat : Int)
    refine wpB (wpE hbl ?_)
    refine wpI ?_ ?_ <;> intro hz
    ·refine (ih _ (by omega) (by omega) (by omega)).mono ?_
     intro r hr
     exact ⟨by omega, hr.2.1, fun _ _ _ => by omega⟩
    ·refine wpS ⟨Int.le_refl _, h2, ?_⟩
     intro c' hc' h'
     rw [hc] at hc'; injection hc' with hc'; subst hc'
     rw [hbl] at h'; injection h' with h'; exact absurd h' hz
   ·omega
  ·refine wpS ⟨Int.le_refl _, h2, ?_⟩
   intro c' hc' h'
   have : s.B[x.toNat]? = none := by simp; omega
   rw [this] at hc'; cases hc'
theorem space_wp (F : Nat) (B : List UInt8) (s : correctorref6_scanner) (h : SI F B s) (hx : s.At < B.length) (hn : B.length ≤ 20000) (hF : B.length + 10 < F) :
  Wp (correctorref6_scanner_space F s) (fun r => (r.1 = true ∧ SI F B r.2 ∧ s.At < r.2.At) ∨ (r.1 = false ∧ r.2 = s ∧ Wp (correctorref2_Break F B s.At) (fun b => b = 0))) := by
 have hb := h.b
 have hr := h.r
 unfold correctorref6_scanner_space
 rw [hb]
 refine wpI ?_ ?_ <;> intro hy
 ·refine wpB (wpG hy ?_)
  intro c hc
  obtain ⟨b, hbr, b1, b2⟩ := break_wp F B s.At (by omega) hn
  refine wpB (wpE hbr ?_)
  refine wpI ?_ ?_ <;> intro hz
  ·have := b2 hz
   rw [w64_eq (by omega) (by omega)]
   refine wpB ((tok_wp h hn 1 (s.At + b) (by omega) (by omega) (by omega) (by omega) (by omega)).mono ?_)
   rintro r ⟨r1, r2, r3, r4, r5⟩
   have he := lastK_ends r5 (.inl rfl)
   refine wpB (wpS ?_)
   refine wpB ?_
   refine Wp.mono (P := fun q => SI F B q ∧ r.At ≤ q.At) ?_ ?_
   ·refine wpI ?_ ?_ <;> intro _
    ·refine wpB ((texts_wp F B _ (r1.row he _ _ _) he hn hF).mono ?_)
     intro q hq; exact wpS hq
    ·exact wpS ⟨r1.row he _ _ _, Int.le_refl _⟩
   ·rintro q ⟨q1, q2⟩
    exact wpS (.inl ⟨rfl, q1, by dsimp only; omega⟩)
  ·have hb0 : Wp (correctorref2_Break F B s.At) (fun b => b = 0) := ⟨b, hbr, by omega⟩
   have hc4 := h.noC hx hb0
   have com : Wp ((correctorref6_scanner_rowEnd F s s.At).bind fun r4854 => (correctorref6_scanner_add F s 4 r4854)) (fun r => SI F B r ∧ s.At < r.At) := by
    refine wpB ((rowEnd_wp F s s.At (by rw [hb]; omega) (by rw [hb]; exact hn) (by rw [hb]; omega)).mono ?_)
    rintro e ⟨e1, e2, e3⟩
    rw [hb] at e2 e3
    have : s.At < e := by
     rcases e3 with e3 | ⟨b', e3, e4⟩
     ·omega
     ·by_cases hh : e = s.At
      ·rw [hh, hbr] at e3; injection e3; omega
      ·omega
    refine (tok_wp h hn 4 e this e2 (by omega) (fun _ => hc4) (fun _ => e3)).mono ?_
    rintro r ⟨r1, r2, _⟩
    exact ⟨r1, by omega⟩
   refine wpB ?_
   refine Wp.mono (P := fun r => r = true → s.At = s.Row ∧ (c.toNat : Int) = 32) ?_ ?_
   ·(repeat' (first | with_reducible refine wpB ?_ | (with_reducible refine wpI ?_ ?_ <;> intro _) | (with_reducible refine wpG (by assumption) ?_; intro _ _) | with_reducible refine wpS ?_ | (with_reducible refine wpN ?_; omega) | dsimp only))
    ·exact fun _ => ⟨by assumption, by assumption⟩
    all_goals (intro hh; cases hh)
   intro r hrr
   refine wpI ?_ ?_ <;> intro hw
   ·obtain ⟨w1, w2⟩ := hrr hw
    have := space_l0_wp F s (by rw [hb]; exact hn) F s.At (by omega) (by rw [hb]; omega) (by rw [hb]; omega)
    rw [hb] at this
    refine wpB (this.mono ?_)
    rintro e ⟨e1, e2, e3⟩
    refine wpB ((tok_wp h hn 2 e (e3 c hc w2) e2 (fun _ => w1) (fun _ => hc4) (by omega)).mono ?_)
    rintro r ⟨r1, r2, _⟩
    have := e3 c hc w2
    exact wpS (.inl ⟨rfl, r1, by dsimp only; omega⟩)
   ·obtain ⟨bl, hbl, _⟩ := blank_wp F (c.toNat : Int)
    refine wpB (wpE hbl ?_)
    refine wpI ?_ ?_ <;> intro hv
    ·subst hv
     have := space_l1_wp F s (by rw [hb]; exact hn) F s.At (by omega) (by rw [hb]; omega) (by rw [hb]; omega)
     rw [hb] at this
     refine wpB (this.mono ?_)
     rintro e ⟨e1, e2, e3⟩
     have := e3 c hc hbl
     refine wpB ((tok_wp h hn 3 e this e2 (by omega) (fun _ => hc4) (by omega)).mono ?_)
     rintro r ⟨r1, r2, _⟩
     exact wpS (.inl ⟨rfl, r1, by dsimp only; omega⟩)
    ·refine wpB ?_
     refine Wp.mono (P := fun r => r = .inl () ∨ ∃ q, r = .inr (true, q) ∧ SI F B q ∧ s.At < q.At) ?_ ?_
     ·obtain ⟨q, hq, q1, q2⟩ := com
      have com2 : Wp ((correctorref6_scanner_rowEnd F s s.At).bind fun r4854 => (correctorref6_scanner_add F s 4 r4854).bind fun r4865 => some ((.inr (true, r4865)) : Sum Unit (Bool × correctorref6_scanner)))
        (fun r => r = .inl () ∨ ∃ q, r = .inr (true, q) ∧ SI F B q ∧ s.At < q.At) := by
       refine ⟨.inr (true, q), ?_, .inr ⟨q, rfl, q1, q2⟩⟩
       rw [← Option.bind_assoc, hq]; rfl
      refine wpI ?_ ?_ <;> intro h35
      ·refine wpI ?_ ?_ <;> intro hro
       ·exact com2
       ·have hl := h.t.bounds.2 (by omega)
        have : 0 < s.L.length := List.length_pos_iff.2 hl
        have hll := h.ll hn
        rw [w64_eq (by omega) (by omega)]
        refine wpI ?_ ?_ <;> intro hi
        ·refine wpB (wpG hi ?_)
         intro t ht
         refine wpI ?_ ?_ <;> intro hk
         ·exact com2
         ·rw [if_pos hi]
          refine wpB (wpG hi ?_)
          intro t ht
          refine wpI ?_ ?_ <;> intro hk
          ·exact com2
          ·exact wpS (.inl rfl)
        ·omega
      ·exact wpS (.inl rfl)
     ·rintro r (rfl | ⟨q, rfl, q1, q2⟩)
      ·exact wpS (.inr ⟨rfl, rfl, hb0⟩)
      ·exact wpS (.inl ⟨rfl, q1, q2⟩)
 ·omega
theorem bracket_wp (F : Nat) (B : List UInt8) (s : correctorref6_scanner) (h : SI F B s) (hx : s.At < B.length) (hn : B.length ≤ 20000) (hc : ¬ LastK s.L 4) :
  Wp (correctorref6_scanner_bracket F s) (fun r => (r.1 = true ∧ SI F B r.2 ∧ s.At < r.2.At) ∨ (r.1 = false ∧ r.2 = s)) := by
 have hb := h.b
 have hr := h.r
 have ho := h.o
 unfold correctorref6_scanner_bracket
 rw [hb]
 have e1 : w64 (s.At + 1) = s.At + 1 := w64_eq (by omega) (by omega)
 rw [e1]
 have T : ∀ k, k ≠ 2 ∧ k ≠ 4 ∧ k ≠ 20 ∧ k ≠ 21 → Wp (correctorref6_scanner_add F s k (s.At + 1)) (fun r => SI F B r ∧ r.At = s.At + 1 ∧ r.Row = s.Row ∧ r.Open = s.Open ∧ LastK r.L k) :=
  fun k hk => tok_wp h hn k (s.At + 1) (by omega) (by omega) (by omega) (fun _ => hc) (by omega)
 refine wpI ?_ ?_ <;> intro hy
 ·refine wpB (wpG hy ?_)
  intro c _
  refine wpB ?_
  refine Wp.mono (P := fun r => (∃ q, r = .inl q ∧ SI F B q ∧ s.At < q.At) ∨ r = .inr (false, s)) ?_ ?_
  ·have up : ∀ r : correctorref6_scanner, SI F B r ∧ r.At = s.At + 1 ∧ r.Row = s.Row ∧ r.Open = s.Open ∧ LastK r.L 0 → True := fun _ _ => trivial
   refine wpI ?_ ?_ <;> intro _
   ·refine wpB ((T 8 (by omega)).mono ?_)
    rintro r ⟨r1, r2, r3, r4, _⟩
    rw [w64_eq (by omega) (by omega)]
    exact wpS (.inl ⟨_, rfl, r1.re _ _ _ _ (by omega), by dsimp only; omega⟩)
   refine wpI ?_ ?_ <;> intro _
   ·refine wpB ((T 9 (by omega)).mono ?_)
    rintro r ⟨r1, r2, r3, r4, _⟩
    rw [w64_eq (by omega) (by omega)]
    exact wpS (.inl ⟨_, rfl, r1.re _ _ _ _ (by omega), by dsimp only; omega⟩)
   refine wpI ?_ ?_ <;> intro _
   ·refine wpB ((T 10 (by omega)).mono ?_)
    rintro r ⟨r1, r2, r3, r4, _⟩
    rw [w64_eq (by omega) (by omega)]
    exact wpS (.inl ⟨_, rfl, r1.re _ _ _ _ (by unfold imax; split <;> omega), by dsimp only; omega⟩)
   refine wpI ?_ ?_ <;> intro _
   ·refine wpB ((T 11 (by omega)).mono ?_)
    rintro r ⟨r1, r2, r3, r4, _⟩
    rw [w64_eq (by omega) (by omega)]
    exact wpS (.inl ⟨_, rfl, r1.re _ _ _ _ (by unfold imax; split <;> omega), by dsimp only; omega⟩)
   refine wpI ?_ ?_ <;> intro _
   ·refine wpI ?_ ?_ <;> intro _
    ·refine wpB ((T 7 (by omega)).mono ?_)
     rintro r ⟨r1, r2, r3, r4, _⟩
     exact wpS (.inl ⟨_, rfl, r1, by omega⟩)
    ·exact wpS (.inr rfl)
   ·exact wpS (.inr rfl)
  ·rintro r (⟨q, rfl, q1, q2⟩ | rfl)
   ·exact wpS (.inl ⟨rfl, q1, q2⟩)
   ·exact wpS (.inr ⟨rfl, rfl⟩)
 ·omega
end Go.Proofs.Ytahcngeimlkcgaa.M
