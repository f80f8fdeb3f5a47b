/- The scanner, plainly: it always ends, and what its tokens are like. -/
import Derived.Test.YtahcngeimlkcgaaP11A
namespace Go.Proofs.Ytahcngeimlkcgaa.M
open Go Am Sy
set_option linter.unusedVariables false
set_option linter.unusedSimpArgs false
set_option maxRecDepth 100000
def Wp {α : Type} (o : Option α) (P : α → Prop) : Prop := ∃ a, o = some a ∧ P a
theorem wpS {α : Type} {a : α} {P : α → Prop} (h : P a) : Wp (some a) P := ⟨a, rfl, h⟩
theorem wpB {α β : Type} {o : Option α} {f : α → Option β} {P : β → Prop} (h : Wp o (fun a => Wp (f a) P)) : Wp (o.bind f) P := by
 obtain ⟨a, rfl, b, h1, h2⟩ := h
 exact ⟨b, by simpa using h1, h2⟩
theorem wpI {α : Type} {c : Prop} [Decidable c] {x y : Option α} {P : α → Prop} (h1 : c → Wp x P) (h2 : ¬c → Wp y P) : Wp (if c then x else y) P := by
 by_cases h : c
 ·rw [if_pos h]; exact h1 h
 ·rw [if_neg h]; exact h2 h
theorem wpG {α : Type} {l : List α} {i : Int} {P : α → Prop} (h : 0 ≤ i ∧ i < (l.length : Int)) (h1 : ∀ x, l[i.toNat]? = some x → P x) : Wp (l[i.toNat]?) P := by
 have : i.toNat < l.length := by omega
 exact ⟨l[i.toNat], by simp [this], h1 _ (by simp [this])⟩
theorem wpE {α : Type} {o : Option α} {a : α} {P : α → Prop} (h : o = some a) (h1 : P a) : Wp o P := ⟨a, h, h1⟩
theorem wpN {α : Type} {P : α → Prop} (h : False) : Wp none P := h.elim
theorem Wp.mono {α : Type} {o : Option α} {P Q : α → Prop} (h : Wp o P) (k : ∀ a, P a → Q a) : Wp o Q := by
 obtain ⟨a, h1, h2⟩ := h; exact ⟨a, h1, k a h2⟩
theorem blank_wp (F : Nat) (c : Int) : Wp (correctorref5_Blank F c) (fun _ => True) := by
 unfold correctorref5_Blank; (repeat' (first | with_reducible refine wpB ?_ | (with_reducible refine wpI ?_ ?_ <;> intro _) | (with_reducible refine wpG (by assumption) ?_; intro _ _) | with_reducible refine wpS ?_ | (with_reducible refine wpN ?_; omega) | dsimp only)) <;> trivial
theorem flow_wp (F : Nat) (c : Int) : Wp (correctorref5_Flow F c) (fun _ => True) := by
 unfold correctorref5_Flow; (repeat' (first | with_reducible refine wpB ?_ | (with_reducible refine wpI ?_ ?_ <;> intro _) | (with_reducible refine wpG (by assumption) ?_; intro _ _) | with_reducible refine wpS ?_ | (with_reducible refine wpN ?_; omega) | dsimp only)) <;> trivial
theorem name_wp (F : Nat) (c : Int) : Wp (correctorref5_Name F c) (fun _ => True) := by
 unfold correctorref5_Name; (repeat' (first | with_reducible refine wpB ?_ | (with_reducible refine wpI ?_ ?_ <;> intro _) | (with_reducible refine wpG (by assumption) ?_; intro _ _) | with_reducible refine wpS ?_ | (with_reducible refine wpN ?_; omega) | dsimp only)) <;> trivial
theorem break_wp (F : Nat) (B : List UInt8) (i : Int) (h : 0 ≤ i) (hn : B.length ≤ 20000) : Wp (correctorref2_Break F B i) (fun r => 0 ≤ r ∧ (0 < r → i + r ≤ B.length)) := by
 unfold correctorref2_Break
 refine wpI ?_ ?_ <;> intro _
 ·exact wpS (by omega)
 ·have e : w64 (i + 1) = i + 1 := w64_eq (by omega) (by omega)
  simp only [e]
  (repeat' (first | with_reducible refine wpB ?_ | (with_reducible refine wpI ?_ ?_ <;> intro _) | (with_reducible refine wpG (by assumption) ?_; intro _ _) | with_reducible refine wpS ?_ | (with_reducible refine wpN ?_; omega) | dsimp only)) <;> omega
theorem ended_wp (F : Nat) (s : correctorref6_scanner) (i : Int) (h : 0 ≤ i) (hn : s.B.length ≤ 20000) : Wp (correctorref6_scanner_ended F s i) (fun _ => True) := by
 unfold correctorref6_scanner_ended
 refine wpI ?_ ?_ <;> intro hi
 ·exact wpS trivial
 ·(repeat' (first | with_reducible refine wpB ?_ | (with_reducible refine wpI ?_ ?_ <;> intro _) | (with_reducible refine wpG (by assumption) ?_; intro _ _) | with_reducible refine wpS ?_ | (with_reducible refine wpN ?_; omega) | dsimp only))
  refine (blank_wp _ _).mono ?_
  intro r _
  (repeat' (first | with_reducible refine wpB ?_ | (with_reducible refine wpI ?_ ?_ <;> intro _) | (with_reducible refine wpG (by assumption) ?_; intro _ _) | with_reducible refine wpS ?_ | (with_reducible refine wpN ?_; omega) | dsimp only))
  refine (break_wp _ _ _ h hn).mono ?_
  intro r _
  (repeat' (first | with_reducible refine wpB ?_ | (with_reducible refine wpI ?_ ?_ <;> intro _) | (with_reducible refine wpG (by assumption) ?_; intro _ _) | with_reducible refine wpS ?_ | (with_reducible refine wpN ?_; omega) | dsimp only)) <;> trivial
theorem byteAt_wp (F : Nat) (s : correctorref6_scanner) (i : Int) : Wp (correctorref6_scanner_byteAt F s i) (fun r => r ≠ 0 → i < s.B.length) := by
 unfold correctorref6_scanner_byteAt
 (repeat' (first | with_reducible refine wpB ?_ | (with_reducible refine wpI ?_ ?_ <;> intro _) | (with_reducible refine wpG (by assumption) ?_; intro _ _) | with_reducible refine wpS ?_ | (with_reducible refine wpN ?_; omega) | dsimp only)) <;> omega
theorem mark_wp (F : Nat) (s : correctorref6_scanner) (i : Int) (h : 0 ≤ i ∧ i ≤ s.B.length) (hn : s.B.length ≤ 20000) :
  Wp (correctorref6_scanner_mark F s i) (fun r => r = 0 ∨ (r = 20 ∨ r = 21) ∧ i + 3 ≤ s.B.length) := by
 unfold correctorref6_scanner_mark
 have e1 : w64 (i + 1) = i + 1 := w64_eq (by omega) (by omega)
 have e2 : w64 (i + 2) = i + 2 := w64_eq (by omega) (by omega)
 have e3 : w64 (i + 3) = i + 3 := w64_eq (by omega) (by omega)
 simp only [e1, e2, e3]
 refine wpB ((byteAt_wp F s i).mono ?_)
 intro r _
 (repeat' (first | with_reducible refine wpB ?_ | (with_reducible refine wpI ?_ ?_ <;> intro _) | (with_reducible refine wpG (by assumption) ?_; intro _ _) | with_reducible refine wpS ?_ | (with_reducible refine wpN ?_; omega) | dsimp only))
 ·omega
 ·refine (ended_wp _ _ _ (by omega) hn).mono ?_
  intro r _
  (repeat' (first | with_reducible refine wpB ?_ | (with_reducible refine wpI ?_ ?_ <;> intro _) | (with_reducible refine wpG (by assumption) ?_; intro _ _) | with_reducible refine wpS ?_ | (with_reducible refine wpN ?_; omega) | dsimp only)) <;> omega
 all_goals omega
def cnt (k : Int) : Bool := !(k == 1 || k == 2 || k == 3 || k == 4)
theorem counts_eq (F : Nat) (k : Int) : correctorref6_Counts F k = some (cnt k) := by
 unfold correctorref6_Counts cnt
 repeat' split
 all_goals simp_all
theorem add_wp (F : Nat) (s : correctorref6_scanner) (k to : Int) (hl : s.L.length ≤ 20000) :
  Wp (correctorref6_scanner_add F s k to) (fun r => r.B = s.B ∧ r.At = to ∧ r.Row = s.Row ∧ r.Open = s.Open ∧ r.L = s.L ++ [⟨k, s.At, to⟩]) := by
 unfold correctorref6_scanner_add
 rw [counts_eq]
 refine wpB (wpB ?_)
 refine Wp.mono (P := fun _ => True) ?_ ?_
 ·(repeat' (first | with_reducible refine wpB ?_ | (with_reducible refine wpI ?_ ?_ <;> intro _) | (with_reducible refine wpG (by assumption) ?_; intro _ _) | with_reducible refine wpS ?_ | (with_reducible refine wpN ?_; omega) | dsimp only)) <;> trivial
 intro c _
 have e : s.L.length + [(⟨k, s.At, to⟩ : api_Token)].length ≤ 5864062014805 := by simp; omega
 (repeat' (first | with_reducible refine wpB ?_ | (with_reducible refine wpI ?_ ?_ <;> intro _) | (with_reducible refine wpG (by assumption) ?_; intro _ _) | with_reducible refine wpS ?_ | (with_reducible refine wpN ?_; omega) | dsimp only))
 all_goals first | exact ⟨rfl, rfl, rfl, rfl, rfl⟩ | (exfalso; simp_all; done) | (exfalso; simp_all; omega)
theorem rowEnd_wp (F : Nat) (s : correctorref6_scanner) (i : Int) (h : 0 ≤ i ∧ i ≤ s.B.length) (hn : s.B.length ≤ 20000) (hF : s.B.length < F) :
  Wp (correctorref6_scanner_rowEnd F s i) (fun r => i ≤ r ∧ r ≤ s.B.length ∧ (r = s.B.length ∨ Wp (correctorref2_Break F s.B r) (fun b => 0 < b))) := by
 have key : ∀ (m : Nat) (x : Int), i ≤ x → x ≤ s.B.length → s.B.length - x < m → Wp (correctorref6_scanner_rowEnd_l0 F s i m x)
   (fun r => i ≤ r ∧ r ≤ s.B.length ∧ (r = s.B.length ∨ Wp (correctorref2_Break F s.B r) (fun b => 0 < b))) := by
  intro m
  induction m with
  | zero => intro x h1 h2 h3; omega
  | succ m ih =>
   intro x h1 h2 h3
   rw [correctorref6_scanner_rowEnd_l0]
   refine wpI ?_ ?_ <;> intro hx
   ·refine wpB ?_
    obtain ⟨b, hb, q1, q2⟩ := break_wp F s.B x (by omega) hn
    refine ⟨b, hb, ?_⟩
    refine wpI ?_ ?_ <;> intro hz
    ·rw [w64_eq (by omega) (by omega)]
     exact ih _ (by omega) (by omega) (by omega)
    ·exact wpS ⟨h1, h2, .inr ⟨b, hb, by omega⟩⟩
   ·exact wpS ⟨h1, h2, .inl (by omega)⟩
 unfold correctorref6_scanner_rowEnd
 refine wpB ((key F i (by omega) (by omega) (by omega)).mono ?_)
 intro a ha
 exact wpS ha
end Go.Proofs.Ytahcngeimlkcgaa.M
