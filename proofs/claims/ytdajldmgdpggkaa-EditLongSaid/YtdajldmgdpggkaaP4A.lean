/- Edit, plainly: numbers and rows. -/
import Derived.Test.YtdajldmgdpggkaaMA0
namespace Go.Proofs.Ytdajldmgdpggkaa.M
open Go Am Sy
set_option linter.unusedVariables false
set_option linter.unusedSimpArgs false

theorem get_nat {α : Type} (l : List α) (i : Nat) : l[((i : Int)).toNat]? = l[i]? := by simp
theorem get_mid {α : Type} (p s : List α) (x : α) : (p ++ x :: s)[((p.length : Int)).toNat]? = some x := by simp
theorem mid_lt {α : Type} (p s : List α) (x : α) : (0 : Int) ≤ (p.length : Int) ∧ (p.length : Int) < ((p ++ x :: s).length : Int) := by simp; omega
theorem step_mid {α : Type} (p : List α) (x : α) (h : p.length < 1000000000) : w64 ((p.length : Int) + 1) = ((p ++ [x]).length : Int) := by
  rw [w64_eq (by omega) (by omega)]; simp
theorem app_mid {α : Type} (p s : List α) (x : α) : (p ++ [x]) ++ s = p ++ x :: s := by simp
/-- The rest that is not below nothing. -/
def wi (a n : Int) : Int := if a.tmod n < 0 then a.tmod n + n else a.tmod n
theorem wi_range (a n : Int) (hn : 0 < n) : 0 ≤ wi a n ∧ wi a n < n := by
  unfold wi
  have h1 := Int.tmod_lt_of_pos a hn
  have h2 := Int.lt_tmod_of_pos a hn
  split <;> omega
theorem within_eq (F : Nat) (a n : Int) (hn : 0 < n) (hm : n ≤ 1000000000) : correctorlaw4_within F a n = some (wi a n) := by
  unfold correctorlaw4_within
  have h1 := Int.tmod_lt_of_pos a hn
  have h2 := Int.lt_tmod_of_pos a hn
  rw [if_pos (by omega)]
  by_cases h : a.tmod n < 0
  · rw [if_pos h]
    simp only [Option.bind_some]
    unfold wi
    rw [if_pos h, w64_eq (by omega) (by omega)]
  · rw [if_neg h]
    simp only [Option.bind_some]
    unfold wi
    rw [if_neg h]
/-- What is wrong with an edit by itself. -/
def oneV (n : Int) (e : api_Edit) : Int := if e.From < 0 then 1 else if e.To < e.From then 1 else if n < e.To then 1 else if 1000 < e.Put.b.length then 4 else 0
theorem one_eq (F : Nat) (n : Int) (e : api_Edit) : edit_one F n e = some (oneV n e) := by
  unfold edit_one oneV
  repeat' split
  all_goals first | rfl | omega
theorem oneV_zero {n : Int} {e : api_Edit} : oneV n e = 0 ↔ 0 ≤ e.From ∧ e.From ≤ e.To ∧ e.To ≤ n ∧ e.Put.b.length ≤ 1000 := by
  unfold oneV
  repeat' split
  all_goals constructor <;> intro h <;> first | omega | (exfalso; omega)
def overP : Option Int → Int → Bool
  | some t, f => decide (f < t)
  | none, _ => false
/-- What is wrong with edits: 'p' is where the one ahead ends. -/
def checkL (n : Int) : Option Int → List api_Edit → Int
  | _, [] => 0
  | p, e :: s => if oneV n e = 0 then (if overP p e.From = true then 6 else checkL n (some e.To) s) else oneV n e
def prevTo (p : List api_Edit) : Option Int := p.getLast?.map (·.To)
theorem prevTo_app (p : List api_Edit) (x : api_Edit) : prevTo (p ++ [x]) = some x.To := by simp [prevTo]
theorem check_l0 (F : Nat) (n : Int) : ∀ (s p : List api_Edit) (m : Nat), s.length < m → p.length + s.length ≤ 1000000 →
    edit_Check_l0 F n (p ++ s) m (p.length : Int) = some (if checkL n (prevTo p) s = 0 then .inl () else .inr (checkL n (prevTo p) s)) := by
  intro s
  induction s with
  | nil =>
    intro p m h1 h2
    obtain ⟨m, rfl⟩ : ∃ k, m = k + 1 := ⟨m - 1, by omega⟩
    rw [edit_Check_l0, if_neg (by simp)]
    rfl
  | cons e s ih =>
    intro p m h1 h2
    obtain ⟨m, rfl⟩ : ∃ k, m = k + 1 := ⟨m - 1, by simp at h1; omega⟩
    simp only [List.length_cons] at h1 h2
    rw [edit_Check_l0, if_pos (mid_lt p s e).2, if_pos (mid_lt p s e), get_mid]
    simp only [Option.bind_some, one_eq]
    by_cases h : oneV n e = 0
    · rw [if_pos h]
      have hstep := ih (p ++ [e]) m (by omega) (by simp; omega)
      rw [app_mid, prevTo_app] at hstep
      simp only [checkL, if_pos h]
      by_cases h0 : (0 : Int) < p.length
      · rw [if_pos h0]
        obtain ⟨q, y, rfl⟩ : ∃ q y, p = q ++ [y] := by
          rcases List.eq_nil_or_concat p with rfl | ⟨q, y, rfl⟩
          · simp at h0
          · exact ⟨q, y, List.concat_eq_append⟩
        have hw : w64 (((q ++ [y]).length : Int) - 1) = (q.length : Int) := by rw [w64_eq (by omega) (by omega)]; simp
        have hq : q ++ [y] ++ e :: s = q ++ y :: (e :: s) := by simp
        rw [hw, hq, if_pos (mid_lt q (e :: s) y), get_mid]
        simp only [Option.bind_some]
        rw [prevTo_app]
        by_cases h3 : e.From < y.To
        · rw [if_pos h3]
          simp only [Option.bind_some, overP, decide_eq_true h3, if_true]
          rfl
        · rw [if_neg h3]
          simp only [Option.bind_some, overP, decide_eq_false h3]
          rw [← hq, step_mid _ e (by omega)]
          exact hstep
      · rw [if_neg h0]
        have hp : p = [] := List.eq_nil_of_length_eq_zero (by omega)
        subst hp
        simp only [Option.bind_some, prevTo, List.getLast?_nil, Option.map_none, overP]
        rw [step_mid [] e (by simp)]
        exact hstep
    · rw [if_neg h]
      simp only [checkL, if_neg h]
def checkV (n : Int) (l : List api_Edit) : Int := if l.length > 200 then 3 else checkL n none l
theorem check_eq (F : Nat) (n : Int) (l : List api_Edit) (hF : 300 < F) : edit_Check F n l = some (checkV n l) := by
  unfold edit_Check checkV
  by_cases h : l.length > 200
  · rw [if_pos (by omega), if_pos h]
  · rw [if_neg (by omega), if_neg h]
    have := check_l0 F n l [] F (by omega) (by simp; omega)
    simp only [List.nil_append, List.length_nil, prevTo, List.getLast?_nil, Option.map_none] at this
    rw [show ((0 : Nat) : Int) = 0 from rfl] at this
    rw [this]
    by_cases hc : checkL n none l = 0
    · simp [hc]
    · simp [hc]
/-- Edits that may be done, told one by one: each as it may be, and behind where the one ahead ends. -/
def Fine (n : Int) : Int → List api_Edit → Prop
  | _, [] => True
  | t, e :: s => t ≤ e.From ∧ e.From ≤ e.To ∧ e.To ≤ n ∧ e.Put.b.length ≤ 1000 ∧ Fine n e.To s
theorem checkL_fine {n : Int} : ∀ (s : List api_Edit) (p : Option Int), checkL n p s = 0 → Fine n (match p with | some t => if t < 0 then 0 else t | none => 0) s := by
  intro s
  induction s with
  | nil => intro p _; trivial
  | cons e s ih =>
    intro p h
    simp only [checkL] at h
    by_cases h1 : oneV n e = 0
    · rw [if_pos h1] at h
      obtain ⟨a1, a2, a3, a4⟩ := oneV_zero.1 h1
      by_cases h2 : overP p e.From = true
      · rw [if_pos h2] at h; exact absurd h (by decide)
      · rw [if_neg h2] at h
        have h3 := ih _ h
        simp only at h3
        rw [if_neg (by omega)] at h3
        refine ⟨?_, a2, a3, a4, h3⟩
        cases p with
        | none => exact a1
        | some t =>
          simp only [overP, decide_eq_true_eq] at h2
          show (if t < 0 then 0 else t) ≤ _
          split <;> omega
    · rw [if_neg h1] at h; exact absurd h h1
theorem fine_checkL {n : Int} : ∀ (s : List api_Edit) (p : Option Int) (t : Int), 0 ≤ t → (∀ q, p = some q → q ≤ t) → Fine n t s → checkL n p s = 0 := by
  intro s
  induction s with
  | nil => intro p t _ _ _; rfl
  | cons e s ih =>
    intro p t h0 h1 ⟨a1, a2, a3, a4, a5⟩
    simp only [checkL]
    rw [if_pos (oneV_zero.2 ⟨by omega, a2, a3, a4⟩)]
    rw [if_neg ?_]
    · exact ih _ e.To (by omega) (fun q hq => by injection hq with hq; omega) a5
    · cases p with
      | none => simp [overP]
      | some q => have := h1 q rfl; simp [overP]; omega
theorem checkV_fine {n : Int} {l : List api_Edit} : checkV n l = 0 ↔ l.length ≤ 200 ∧ Fine n 0 l := by
  unfold checkV
  constructor
  · intro h
    split at h
    · cases h
    · exact ⟨by omega, checkL_fine l none h⟩
  · rintro ⟨h1, h2⟩
    rw [if_neg (by omega)]
    exact fine_checkL l none 0 (Int.le_refl _) (fun q hq => by cases hq) h2
end Go.Proofs.Ytdajldmgdpggkaa.M
