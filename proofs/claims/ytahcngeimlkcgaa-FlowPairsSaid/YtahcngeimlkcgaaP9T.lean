/- The scanner, plainly: names, quotes, heads, plain words. -/
import Derived.Test.YtahcngeimlkcgaaP9S
namespace Go.Proofs.Ytahcngeimlkcgaa.M
open Go Am Sy
set_option linter.unusedVariables false
set_option linter.unusedSimpArgs false
set_option maxRecDepth 100000
theorem names_wp (F : Nat) (s : correctorref6_scanner) (i : Int) (t : Bool) (h : 0 ≤ i ∧ i ≤ s.B.length) (hn : s.B.length ≤ 20000) (hF : s.B.length < F) :
  Wp (correctorref6_scanner_names F s i t) (fun r => i ≤ r ∧ r ≤ s.B.length) := by
 have key : ∀ (m : Nat) (x : Int), i ≤ x → x ≤ s.B.length → s.B.length - x < m → Wp (correctorref6_scanner_names_l0 F s i t m x)
   (fun r => i ≤ r ∧ r ≤ s.B.length) := by
  intro m
  induction m with
  | zero => intro x h1 h2 h3; omega
  | succ m ih =>
   intro x h1 h2 h3
   have e : x < s.B.length → w64 (x + 1) = x + 1 := fun _ => w64_eq (by omega) (by omega)
   have st : x < s.B.length → Wp (correctorref6_scanner_names_l0 F s i t m (w64 (x + 1))) (fun r => i ≤ r ∧ r ≤ s.B.length) := by
    intro hx; rw [e hx]; exact ih _ (by omega) (by omega) (by omega)
   rw [correctorref6_scanner_names_l0]
   refine wpB ?_
   refine wpI ?_ ?_ <;> intro hx
   ·have st := st hx
    (repeat' (first | with_reducible refine wpB ?_ | (with_reducible refine wpI ?_ ?_ <;> intro _) | (with_reducible refine wpG (by assumption) ?_; intro _ _) | with_reducible refine wpS ?_ | (with_reducible refine wpN ?_; omega) | dsimp only))
    refine (name_wp _ _).mono ?_
    intro r _
    (repeat' (first | with_reducible refine wpB ?_ | (with_reducible refine wpI ?_ ?_ <;> intro _) | (with_reducible refine wpG (by assumption) ?_; intro _ _) | with_reducible refine wpS ?_ | (with_reducible refine wpN ?_; omega) | dsimp only))
    all_goals first | exact st | omega
   ·exact wpS (wpS ⟨h1, h2⟩)
 unfold correctorref6_scanner_names
 refine wpB ((key F i (by omega) (by omega) (by omega)).mono ?_)
 intro a ha
 exact wpS ha
theorem colon_wp (F : Nat) (s : correctorref6_scanner) (i : Int) (h : 0 ≤ i) (hn : s.B.length ≤ 20000) : Wp (correctorref6_scanner_colon F s i) (fun _ => True) := by
 unfold correctorref6_scanner_colon
 refine wpB ((byteAt_wp F s i).mono ?_)
 intro r _
 refine wpI ?_ ?_ <;> intro _
 ·refine wpI ?_ ?_ <;> intro _
  ·rw [w64_eq (by omega) (by omega)]
   refine wpB ((ended_wp _ _ _ (by omega) hn).mono ?_)
   intro r _
   (repeat' (first | with_reducible refine wpB ?_ | (with_reducible refine wpI ?_ ?_ <;> intro _) | (with_reducible refine wpG (by assumption) ?_; intro _ _) | with_reducible refine wpS ?_ | (with_reducible refine wpN ?_; omega) | dsimp only))
   refine (byteAt_wp F s _).mono ?_
   intro r _
   (repeat' (first | with_reducible refine wpB ?_ | (with_reducible refine wpI ?_ ?_ <;> intro _) | (with_reducible refine wpG (by assumption) ?_; intro _ _) | with_reducible refine wpS ?_ | (with_reducible refine wpN ?_; omega) | dsimp only))
   refine (flow_wp _ _).mono ?_
   intro r _
   (repeat' (first | with_reducible refine wpB ?_ | (with_reducible refine wpI ?_ ?_ <;> intro _) | (with_reducible refine wpG (by assumption) ?_; intro _ _) | with_reducible refine wpS ?_ | (with_reducible refine wpN ?_; omega) | dsimp only))
  ·exact wpS trivial
 ·exact wpS trivial
theorem single_wp (F : Nat) (s : correctorref6_scanner) (i e : Int) (h : 0 ≤ i ∧ i ≤ e ∧ e ≤ s.B.length) (hn : s.B.length ≤ 20000) (hF : s.B.length < F) :
  Wp (correctorref6_scanner_single F s i e) (fun r => i ≤ r ∧ r ≤ e) := by
 have key : ∀ (m : Nat) (x : Int), i ≤ x → x ≤ e → e - x < m → Wp (correctorref6_scanner_single_l0 F s i e m x)
   (fun r => ∀ y, r = .inr y → i ≤ y ∧ y ≤ e) := by
  intro m
  induction m with
  | zero => intro x h1 h2 h3; omega
  | succ m ih =>
   intro x h1 h2 h3
   rw [correctorref6_scanner_single_l0]
   refine wpI ?_ ?_ <;> intro hx
   ·have e1 : w64 (x + 1) = x + 1 := w64_eq (by omega) (by omega)
    have e2 : w64 (x + 2) = x + 2 := w64_eq (by omega) (by omega)
    simp only [e1, e2]
    (repeat' (first | with_reducible refine wpB ?_ | (with_reducible refine wpI ?_ ?_ <;> intro _) | (with_reducible refine wpG (by assumption) ?_; intro _ _) | with_reducible refine wpS ?_ | (with_reducible refine wpN ?_; omega) | dsimp only))
    ·exact ih _ (by omega) (by omega) (by omega)
    ·intro y hy; cases hy; omega
    ·intro y hy; cases hy; omega
    ·exact ih _ (by omega) (by omega) (by omega)
   ·exact wpS (fun y hy => by cases hy)
 unfold correctorref6_scanner_single
 refine wpB ((key F i (by omega) (by omega) (by omega)).mono ?_)
 intro a ha
 rcases a with _ | y
 ·exact wpS ⟨h.2.1, Int.le_refl _⟩
 ·exact wpS (ha y rfl)
theorem double_wp (F : Nat) (s : correctorref6_scanner) (i e : Int) (h : 0 ≤ i ∧ i ≤ e ∧ e ≤ s.B.length) (hn : s.B.length ≤ 20000) (hF : s.B.length + 2 < F) :
  Wp (correctorref6_scanner_double F s i e) (fun r => i ≤ r) := by
 have key : ∀ (m : Nat) (x : Int), i ≤ x → x ≤ e + 1 → e + 1 - x < m → Wp (correctorref6_scanner_double_l0 F s i e m x)
   (fun r => ∀ y, r = .inr y → i ≤ y) := by
  intro m
  induction m with
  | zero => intro x h1 h2 h3; omega
  | succ m ih =>
   intro x h1 h2 h3
   rw [correctorref6_scanner_double_l0]
   refine wpI ?_ ?_ <;> intro hx
   ·have e1 : w64 (x + 1) = x + 1 := w64_eq (by omega) (by omega)
    have e2 : w64 (x + 1 + 1) = x + 1 + 1 := w64_eq (by omega) (by omega)
    (repeat' (first | with_reducible refine wpB ?_ | (with_reducible refine wpI ?_ ?_ <;> intro _) | (with_reducible refine wpG (by assumption) ?_; intro _ _) | with_reducible refine wpS ?_ | (with_reducible refine wpN ?_; omega) | dsimp only))
    ·intro y hy; cases hy; omega
    ·rw [e1, e2]; exact ih _ (by omega) (by omega) (by omega)
    ·rw [e1]; exact ih _ (by omega) (by omega) (by omega)
   ·exact wpS (fun y hy => by cases hy)
 unfold correctorref6_scanner_double
 refine wpB ((key F i (by omega) (by omega) (by omega)).mono ?_)
 intro a ha
 rcases a with _ | y
 ·exact wpS h.2.1
 ·exact wpS (ha y rfl)
theorem head_wp (F : Nat) (s : correctorref6_scanner) (h : 0 ≤ s.At ∧ s.At < s.B.length) (hn : s.B.length ≤ 20000) (hF : s.B.length + 2 < F) :
  Wp (correctorref6_scanner_head F s) (fun r => 0 ≤ r ∧ s.At + r ≤ s.B.length) := by
 have key : ∀ (j : Int), s.At ≤ j → j ≤ s.B.length → ∀ (m : Nat) (x : Int), j ≤ x → x ≤ s.B.length → s.B.length - x < m → Wp (correctorref6_scanner_head_l0 F s m j x)
   (fun r => r.1 = j ∧ j ≤ r.2 ∧ r.2 ≤ s.B.length) := by
  intro j j1 j2 m
  induction m with
  | zero => intro x h1 h2 h3; omega
  | succ m ih =>
   intro x h1 h2 h3
   rw [correctorref6_scanner_head_l0]
   refine wpI ?_ ?_ <;> intro hx
   ·have e1 : w64 (x + 1) = x + 1 := w64_eq (by omega) (by omega)
    rw [e1]
    (repeat' (first | with_reducible refine wpB ?_ | (with_reducible refine wpI ?_ ?_ <;> intro _) | (with_reducible refine wpG (by assumption) ?_; intro _ _) | with_reducible refine wpS ?_ | (with_reducible refine wpN ?_; omega) | dsimp only))
    refine (blank_wp _ _).mono ?_
    intro r _
    (repeat' (first | with_reducible refine wpB ?_ | (with_reducible refine wpI ?_ ?_ <;> intro _) | (with_reducible refine wpG (by assumption) ?_; intro _ _) | with_reducible refine wpS ?_ | (with_reducible refine wpN ?_; omega) | dsimp only))
    ·exact ih _ (by omega) (by omega) (by omega)
    ·exact ⟨rfl, h1, h2⟩
   ·exact wpS ⟨rfl, h1, h2⟩
 have e1 : w64 (s.At + 1) = s.At + 1 := w64_eq (by omega) (by omega)
 have e2 : w64 (s.At + 1 + 1) = s.At + 1 + 1 := w64_eq (by omega) (by omega)
 have tail : ∀ j : Int, s.At ≤ j → j ≤ s.B.length → Wp ((correctorref6_scanner_head_l0 F s F j j).bind fun o => match o with
     | (x7897, x7898) => ((if x7898 < (s.B.length : Int) then
       (correctorref2_Break F s.B x7898).bind fun r7922 =>
       if r7922 = (0 : Int) then
        if 0 ≤ x7898 ∧ x7898 < (s.B.length : Int) then
         (s.B[x7898.toNat]?).bind fun x7931 =>
         if (x7931.toNat : Int) = (35 : Int) then
          if x7897 < x7898 then
           some (.inl ())
          else
           some (.inr 0)
         else
          some (.inr 0)
        else none
       else
        some (.inl ())
      else
       some (.inl ())) : Option (Sum Unit Int)).bind fun o => match o with
      | .inl () => some (w64 (x7897 - s.At))
      | .inr y => some y) (fun r => 0 ≤ r ∧ s.At + r ≤ s.B.length) := by
  intro j j1 j2
  refine wpB ((key j j1 j2 F j (by omega) (by omega) (by omega)).mono ?_)
  rintro ⟨a, b⟩ ⟨q1, q2, q3⟩
  dsimp only at q1 q2 q3 ⊢
  subst q1
  have e3 : w64 (a - s.At) = a - s.At := w64_eq (by omega) (by omega)
  rw [e3]
  refine wpB ?_
  refine wpI ?_ ?_ <;> intro hx
  ·refine wpB ((break_wp _ _ _ (by omega) hn).mono ?_)
   intro r _
   (repeat' (first | with_reducible refine wpB ?_ | (with_reducible refine wpI ?_ ?_ <;> intro _) | (with_reducible refine wpG (by assumption) ?_; intro _ _) | with_reducible refine wpS ?_ | (with_reducible refine wpN ?_; omega) | dsimp only)) <;> omega
  ·exact wpS (wpS (by omega))
 unfold correctorref6_scanner_head
 simp only [e1, e2]
 refine wpI ?_ ?_ <;> intro hx
 ·refine wpB (wpG hx ?_)
  intro c hc
  refine wpB ?_
  refine Wp.mono (P := fun r => ∀ y, r = .inr y → y = 0) ?_ ?_
  ·(repeat' (first | with_reducible refine wpB ?_ | (with_reducible refine wpI ?_ ?_ <;> intro _) | (with_reducible refine wpG (by assumption) ?_; intro _ _) | with_reducible refine wpS ?_ | (with_reducible refine wpN ?_; omega) | dsimp only))
   all_goals intro y hy; cases hy
   all_goals rfl
  intro a ha
  rcases a with _ | y
  ·dsimp only
   refine wpB ?_
   refine Wp.mono (P := fun r => s.At ≤ r ∧ r ≤ s.B.length) ?_ ?_
   ·refine wpB ((byteAt_wp F s _).mono ?_)
    intro r hr
    (repeat' (first | with_reducible refine wpB ?_ | (with_reducible refine wpI ?_ ?_ <;> intro _) | (with_reducible refine wpG (by assumption) ?_; intro _ _) | with_reducible refine wpS ?_ | (with_reducible refine wpN ?_; omega) | dsimp only))
    ·omega
    ·refine (byteAt_wp F s _).mono ?_
     intro r' hr'
     (repeat' (first | with_reducible refine wpB ?_ | (with_reducible refine wpI ?_ ?_ <;> intro _) | (with_reducible refine wpG (by assumption) ?_; intro _ _) | with_reducible refine wpS ?_ | (with_reducible refine wpN ?_; omega) | dsimp only)) <;> omega
   ·intro j hj
    exact tail j hj.1 hj.2
  ·have := ha y rfl
   subst this
   exact wpS (by omega)
 ·omega
end Go.Proofs.Ytahcngeimlkcgaa.M
