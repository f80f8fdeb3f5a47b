/- The scanner, plainly: one sign, a plain word; what holds of its tokens. -/
import Derived.Test.YtahcngeimlkcgaaP9T
namespace Go.Proofs.Ytahcngeimlkcgaa.M
open Go Am Sy
set_option linter.unusedVariables false
set_option linter.unusedSimpArgs false
set_option maxRecDepth 100000
theorem sign_wp (F : Nat) (b : List UInt8) (n x low : Int) (h : 1 ≤ n ∧ n ≤ 4) (hF : 10 < F) : Wp (correctorref1_sign F b n x low) (fun r => r.2 = 1 ∨ (1 ≤ r.2 ∧ r.2 ≤ b.length)) := by
 have key : n ≤ b.length → ∀ (m : Nat) (v i : Int), 1 ≤ i → i ≤ n → n - i < m → Wp (correctorref1_sign_l0 F b n x low m v i)
   (fun r => ∀ y, r = .inr y → y.2 = 1) := by
  intro hn m
  induction m with
  | zero => intro v i h1 h2 h3; omega
  | succ m ih =>
   intro v i h1 h2 h3
   rw [correctorref1_sign_l0]
   refine wpI ?_ ?_ <;> intro hx
   ·have e1 : w64 (i + 1) = i + 1 := w64_eq (by omega) (by omega)
    rw [e1]
    (repeat' (first | with_reducible refine wpB ?_ | (with_reducible refine wpI ?_ ?_ <;> intro _) | (with_reducible refine wpG (by assumption) ?_; intro _ _) | with_reducible refine wpS ?_ | (with_reducible refine wpN ?_; omega) | dsimp only))
    ·intro y hy; cases hy; rfl
    ·intro y hy; cases hy; rfl
    ·exact ih _ _ (by omega) (by omega) (by omega)
   ·exact wpS (fun y hy => by cases hy)
 unfold correctorref1_sign
 refine wpI ?_ ?_ <;> intro hx
 ·exact wpS (.inl rfl)
 ·refine wpB ((key (by omega) F x 1 (by omega) (by omega) (by omega)).mono ?_)
  intro a ha
  rcases a with v | y
  ·(repeat' (first | with_reducible refine wpB ?_ | (with_reducible refine wpI ?_ ?_ <;> intro _) | (with_reducible refine wpG (by assumption) ?_; intro _ _) | with_reducible refine wpS ?_ | (with_reducible refine wpN ?_; omega) | dsimp only))
   all_goals first | exact .inl rfl | exact .inr ⟨h.1, by omega⟩
  ·exact wpS (.inl (ha y rfl))
theorem next_wp (F : Nat) (b : List UInt8) (hb : 0 < b.length) (hF : 10 < F) : Wp (correctorref1_Next F b) (fun r => 1 ≤ r.2 ∧ r.2 ≤ b.length) := by
 unfold correctorref1_Next
 rw [if_neg (by omega)]
 refine wpI ?_ ?_ <;> intro h0
 ·refine wpB (wpG h0 ?_)
  intro c hc
  refine wpB ?_
  have sg : ∀ n x low, 1 ≤ n ∧ n ≤ 4 → Wp (correctorref1_sign F b n x low) (fun r => 1 ≤ r.2 ∧ r.2 ≤ b.length) :=
   fun n x low h => (sign_wp F b n x low h hF).mono (fun r hr => by omega)
  (repeat' (first | with_reducible refine wpB ?_ | (with_reducible refine wpI ?_ ?_ <;> intro _) | (with_reducible refine wpG (by assumption) ?_; intro _ _) | with_reducible refine wpS ?_ | (with_reducible refine wpN ?_; omega) | dsimp only))
  all_goals first
   | omega
   | (exfalso; simp_all; done)
   | (refine (sg 2 _ _ (by omega)).mono ?_; intro r hr; (repeat' (first | with_reducible refine wpB ?_ | (with_reducible refine wpI ?_ ?_ <;> intro _) | (with_reducible refine wpG (by assumption) ?_; intro _ _) | with_reducible refine wpS ?_ | (with_reducible refine wpN ?_; omega) | dsimp only)); exact hr)
   | (refine (sg 3 _ _ (by omega)).mono ?_; intro r hr; (repeat' (first | with_reducible refine wpB ?_ | (with_reducible refine wpI ?_ ?_ <;> intro _) | (with_reducible refine wpG (by assumption) ?_; intro _ _) | with_reducible refine wpS ?_ | (with_reducible refine wpN ?_; omega) | dsimp only)); exact hr)
   | (refine (sg 4 _ _ (by omega)).mono ?_; intro r hr; (repeat' (first | with_reducible refine wpB ?_ | (with_reducible refine wpI ?_ ?_ <;> intro _) | (with_reducible refine wpG (by assumption) ?_; intro _ _) | with_reducible refine wpS ?_ | (with_reducible refine wpN ?_; omega) | dsimp only)); exact hr)
 ·omega
theorem plain_wp (F : Nat) (s : correctorref6_scanner) (h : 0 ≤ s.At ∧ s.At < s.B.length) (hn : s.B.length ≤ 20000) (hF : s.B.length + 10 < F) :
  Wp (correctorref6_scanner_plain F s) (fun r => s.At < r ∧ r ≤ s.B.length) := by
 have k0 : ∀ (m : Nat) (x : Int), s.At < x → x ≤ s.B.length → s.B.length - x < m → Wp (correctorref6_scanner_plain_l0 F s m x)
   (fun r => s.At < r ∧ r ≤ s.B.length) := by
  intro m
  induction m with
  | zero => intro x h1 h2 h3; omega
  | succ m ih =>
   intro x h1 h2 h3
   rw [correctorref6_scanner_plain_l0]
   refine wpI ?_ ?_ <;> intro hx
   ·refine wpI ?_ ?_ <;> intro hy
    ·have e1 : w64 (x - 1) = x - 1 := w64_eq (by omega) (by omega)
     rw [e1]
     refine wpB ((next_wp F _ (by simp; omega) (by omega)).mono ?_)
     intro r hr
     have hl : ((s.B.take (s.B.length : Int).toNat).drop x.toNat).length = s.B.length - x.toNat := by simp
     rw [hl] at hr
     have st : Wp (correctorref6_scanner_plain_l0 F s m (w64 (x + r.2))) (fun r => s.At < r ∧ r ≤ s.B.length) := by
      rw [w64_eq (by omega) (by omega)]
      exact ih _ (by omega) (by omega) (by omega)
     refine wpB ?_
     refine Wp.mono (P := fun r => r = .inl () ∨ r = .inr x) ?_ ?_
     ·(repeat' (first | with_reducible refine wpB ?_ | (with_reducible refine wpI ?_ ?_ <;> intro _) | (with_reducible refine wpG (by assumption) ?_; intro _ _) | with_reducible refine wpS ?_ | (with_reducible refine wpN ?_; omega) | dsimp only))
      ·exact .inr rfl
      ·refine (break_wp _ _ _ (by omega) hn).mono ?_
       intro r _
       (repeat' (first | with_reducible refine wpB ?_ | (with_reducible refine wpI ?_ ?_ <;> intro _) | (with_reducible refine wpG (by assumption) ?_; intro _ _) | with_reducible refine wpS ?_ | (with_reducible refine wpN ?_; omega) | dsimp only))
       ·exact .inr rfl
       ·refine (colon_wp _ _ _ (by omega) hn).mono ?_
        intro r _
        (repeat' (first | with_reducible refine wpB ?_ | (with_reducible refine wpI ?_ ?_ <;> intro _) | (with_reducible refine wpG (by assumption) ?_; intro _ _) | with_reducible refine wpS ?_ | (with_reducible refine wpN ?_; omega) | dsimp only))
        ·exact .inr rfl
        ·refine (blank_wp _ _).mono ?_
         intro r _
         (repeat' (first | with_reducible refine wpB ?_ | (with_reducible refine wpI ?_ ?_ <;> intro _) | (with_reducible refine wpG (by assumption) ?_; intro _ _) | with_reducible refine wpS ?_ | (with_reducible refine wpN ?_; omega) | dsimp only))
         ·exact .inr rfl
         ·refine (flow_wp _ _).mono ?_
          intro r _
          (repeat' (first | with_reducible refine wpB ?_ | (with_reducible refine wpI ?_ ?_ <;> intro _) | (with_reducible refine wpG (by assumption) ?_; intro _ _) | with_reducible refine wpS ?_ | (with_reducible refine wpN ?_; omega) | dsimp only))
          ·exact .inr rfl
          ·exact .inl rfl
         ·exact .inl rfl
        ·refine (flow_wp _ _).mono ?_
         intro r _
         (repeat' (first | with_reducible refine wpB ?_ | (with_reducible refine wpI ?_ ?_ <;> intro _) | (with_reducible refine wpG (by assumption) ?_; intro _ _) | with_reducible refine wpS ?_ | (with_reducible refine wpN ?_; omega) | dsimp only))
         ·exact .inr rfl
         ·exact .inl rfl
        ·exact .inl rfl
     ·intro a ha
      rcases ha with rfl | rfl
      ·exact st
      ·exact wpS ⟨h1, h2⟩
    ·omega
   ·exact wpS ⟨h1, h2⟩
 have k1 : ∀ (m : Nat) (x : Int), s.At < x → x ≤ s.B.length → x - s.At < m → Wp (correctorref6_scanner_plain_l1 F s m x)
   (fun r => s.At < r ∧ r ≤ s.B.length) := by
  intro m
  induction m with
  | zero => intro x h1 h2 h3; omega
  | succ m ih =>
   intro x h1 h2 h3
   rw [correctorref6_scanner_plain_l1]
   have e1 : w64 (x - 1) = x - 1 := w64_eq (by omega) (by omega)
   have e2 : w64 (s.At + 1) = s.At + 1 := w64_eq (by omega) (by omega)
   rw [e1, e2]
   (repeat' (first | with_reducible refine wpB ?_ | (with_reducible refine wpI ?_ ?_ <;> intro _) | (with_reducible refine wpG (by assumption) ?_; intro _ _) | with_reducible refine wpS ?_ | (with_reducible refine wpN ?_; omega) | dsimp only))
   ·refine (blank_wp _ _).mono ?_
    intro r _
    (repeat' (first | with_reducible refine wpB ?_ | (with_reducible refine wpI ?_ ?_ <;> intro _) | (with_reducible refine wpG (by assumption) ?_; intro _ _) | with_reducible refine wpS ?_ | (with_reducible refine wpN ?_; omega) | dsimp only))
    ·exact ih _ (by omega) (by omega) (by omega)
    ·exact ⟨h1, h2⟩
   ·exact ⟨h1, h2⟩
 unfold correctorref6_scanner_plain
 refine wpI ?_ ?_ <;> intro hx
 ·refine wpB ((next_wp F _ (by simp; omega) (by omega)).mono ?_)
  intro r hr
  have hl : ((s.B.take (s.B.length : Int).toNat).drop s.At.toNat).length = s.B.length - s.At.toNat := by simp
  rw [hl] at hr
  rw [w64_eq (by omega) (by omega)]
  refine wpB ((k0 F _ (by omega) (by omega) (by omega)).mono ?_)
  intro a ha
  refine wpB ((k1 F _ ha.1 ha.2 (by omega)).mono ?_)
  intro a ha
  exact wpS ha
 ·omega
def Ends (l : List api_Token) : Prop := l = [] ∨ ∃ p t, l = p ++ [t] ∧ (t.Kind = 1 ∨ t.Kind = 19)
def LastK (l : List api_Token) (k : Int) : Prop := ∃ p t, l = p ++ [t] ∧ t.Kind = k
inductive Tk (n : Int) : List api_Token → Int → Prop
 | nil : Tk n [] 0
 | snoc {l : List api_Token} {at' : Int} (k to : Int) : Tk n l at' → at' < to → to ≤ n → (k = 2 ∨ k = 20 ∨ k = 21 → Ends l) → (LastK l 4 → k = 1) → Tk n (l ++ [⟨k, at', to⟩]) to
theorem Tk.bounds {n : Int} {l : List api_Token} {a : Int} (h : Tk n l a) : (l.length : Int) ≤ a ∧ (0 < a → l ≠ []) := by
 induction h with
 | nil => simp
 | snoc k to h1 h2 h3 h4 h5 ih => simp; omega
structure SI (F : Nat) (B : List UInt8) (s : correctorref6_scanner) : Prop where
 b : s.B = B
 r : 0 ≤ s.Row ∧ s.Row ≤ s.At ∧ s.At ≤ B.length
 o : 0 ≤ s.Open ∧ s.Open ≤ s.At
 t : Tk B.length s.L s.At
 w : s.At = s.Row → Ends s.L
 c : LastK s.L 4 → s.At = B.length ∨ Wp (correctorref2_Break F B s.At) (fun b => 0 < b)
theorem SI.ll {F : Nat} {B : List UInt8} {s : correctorref6_scanner} (h : SI F B s) (hn : B.length ≤ 20000) : s.L.length ≤ 20000 := by
 have := h.t.bounds.1; have := h.r; omega
theorem lastK_snoc (l : List api_Token) (t : api_Token) (k : Int) : LastK (l ++ [t]) k ↔ t.Kind = k := by
 constructor
 ·rintro ⟨p, t', h, h1⟩
  have := List.append_inj_right' h rfl
  simp at this; subst this; exact h1
 ·intro h; exact ⟨l, t, rfl, h⟩
theorem SI.add {F : Nat} {B : List UInt8} {s r : correctorref6_scanner} {k to : Int} (h : SI F B s)
  (hr : r.B = s.B ∧ r.At = to ∧ r.Row = s.Row ∧ r.Open = s.Open ∧ r.L = s.L ++ [⟨k, s.At, to⟩])
  (h1 : s.At < to) (h2 : to ≤ B.length) (h3 : k = 2 ∨ k = 20 ∨ k = 21 → s.At = s.Row)
  (h4 : k ≠ 1 → ¬ LastK s.L 4)
  (h5 : k = 4 → to = B.length ∨ Wp (correctorref2_Break F B to) (fun b => 0 < b)) : SI F B r := by
 obtain ⟨e1, e2, e3, e4, e5⟩ := hr
 have hR := h.r
 have hO := h.o
 refine ⟨by rw [e1, h.b], by rw [e2, e3]; omega, by rw [e2, e4]; omega, ?_, by rw [e2, e3]; omega, ?_⟩
 ·rw [e5, e2]
  refine .snoc k to h.t h1 h2 (fun q => h.w (h3 q)) ?_
  intro q
  by_cases hk : k = 1
  ·exact hk
  ·exact absurd q (h4 hk)
 ·rw [e5, e2, lastK_snoc]
  exact h5
theorem SI.noC {F : Nat} {B : List UInt8} {s : correctorref6_scanner} (h : SI F B s) (h1 : s.At < B.length) (h2 : Wp (correctorref2_Break F B s.At) (fun b => b = 0)) : ¬ LastK s.L 4 := by
 intro q
 obtain ⟨b, q2, q3⟩ := h2
 rcases h.c q with q4 | ⟨b', q4, q5⟩
 ·omega
 ·rw [q2] at q4; injection q4; omega
theorem Ends.noC {l : List api_Token} (h : Ends l) : ¬ LastK l 4 := by
 rcases h with rfl | ⟨p, t, rfl, h⟩
 ·rintro ⟨p, t, h, _⟩; simp at h
 ·rw [lastK_snoc]; omega
theorem SI.re {F : Nat} {B : List UInt8} {s : correctorref6_scanner} (h : SI F B s) (o base text : Int) (only : Bool) (ho : 0 ≤ o ∧ o ≤ s.At) :
  SI F B ⟨s.B, s.At, s.Row, o, base, only, text, s.L⟩ := ⟨h.b, h.r, ho, h.t, h.w, h.c⟩
theorem SI.row {F : Nat} {B : List UInt8} {s : correctorref6_scanner} (h : SI F B s) (he : Ends s.L) (base text : Int) (only : Bool) :
  SI F B ⟨s.B, s.At, s.At, s.Open, base, only, text, s.L⟩ := by
 have := h.r
 exact ⟨h.b, by dsimp only; omega, h.o, h.t, fun _ => he, h.c⟩
theorem tok_wp {F : Nat} {B : List UInt8} {s : correctorref6_scanner} (h : SI F B s) (hn : B.length ≤ 20000) (k to : Int)
  (h1 : s.At < to) (h2 : to ≤ B.length) (h3 : k = 2 ∨ k = 20 ∨ k = 21 → s.At = s.Row)
  (h4 : k ≠ 1 → ¬ LastK s.L 4)
  (h5 : k = 4 → to = B.length ∨ Wp (correctorref2_Break F B to) (fun b => 0 < b)) :
  Wp (correctorref6_scanner_add F s k to) (fun r => SI F B r ∧ r.At = to ∧ r.Row = s.Row ∧ r.Open = s.Open ∧ LastK r.L k) := by
 refine (add_wp F s k to (h.ll hn)).mono ?_
 intro r hr
 refine ⟨h.add hr h1 h2 h3 h4 h5, hr.2.1, hr.2.2.1, hr.2.2.2.1, ?_⟩
 rw [hr.2.2.2.2, lastK_snoc]
end Go.Proofs.Ytahcngeimlkcgaa.M
