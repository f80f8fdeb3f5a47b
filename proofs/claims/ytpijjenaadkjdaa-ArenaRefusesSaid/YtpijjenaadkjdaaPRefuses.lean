/- ArenaRefuses, plainly. -/
import Derived.Test.YtpijjenaadkjdaaPS
import Derived.Test.YtpijjenaadkjdaaMRefuses0
namespace Go.Proofs.Ytpijjenaadkjdaa.M
open Go Am Sy
set_option linter.unusedVariables false
set_option linter.unusedSimpArgs false

/-- A stream of n tokens with one document. -/
def two (n : Int) : List api_Node := [⟨1, 0, n, -1, [1], false⟩, ⟨2, 1, 3, 0, [], false⟩]
theorem two_small (n : Int) : Small (two n) := ⟨by simp [two], fun x hx => by simp [two] at hx; rcases hx with rfl | rfl <;> simp⟩
theorem two_made (F : Nat) (n : Int) (h0 : 5 ≤ n) (hF : 10 ≤ F) : arena_Add F ⟨[⟨1, 0, n, -1, [], false⟩]⟩ 0 2 1 3 = some (⟨two n⟩, 1) := by
  have hs : Small [(⟨1, 0, n, -1, [], false⟩ : api_Node)] := ⟨by simp, fun x hx => by simp at hx; subst hx; simp⟩
  rw [add_yes F _ 0 2 1 3 hs (by simp) (by simp; omega) ⟨by omega, by simp, by omega, by omega, by omega, ⟨_, rfl, by simp only; omega⟩, ⟨0, rfl, by omega⟩⟩]
  have hm : imax n 3 = n := by unfold imax; rw [if_neg (by omega)]
  simp [addL, growL, two, toMax, hm]
theorem refuses (F : Nat) (n which by_ : Int) (hF : 100 ≤ F) : correctorlaw10_ArenaRefuses F n which by_ = some true := by
  obtain ⟨n0, n1⟩ := wi_range n 50 (by omega)
  obtain ⟨b0, b1⟩ := wi_range by_ 9 (by omega)
  obtain ⟨w0, w1⟩ := wi_range which 8 (by omega)
  have hno : ∀ up kind frm to, ¬ mayAdd (two (5 + wi n 50)) up kind frm to → arena_Add F ⟨two (5 + wi n 50)⟩ up kind frm to = some (⟨two (5 + wi n 50)⟩, -1) := fun up kind frm to h => add_no F ⟨two (5 + wi n 50)⟩ up kind frm to (two_small _) (by simp [two]; omega) h
  have hsame : arena_Same F ⟨two (5 + wi n 50)⟩ ⟨two (5 + wi n 50)⟩ = some true := same_refl F _ (two_small _) (fun x hx => by simp [two] at hx; rcases hx with rfl | rfl <;> simp <;> omega) (by simp [two]; omega)
  have fin : ∀ up kind frm to, ¬ mayAdd (two (5 + wi n 50)) up kind frm to → ((arena_Add F ⟨two (5 + wi n 50)⟩ up kind frm to).bind fun r =>
      if (1 : Int) = (1 : Int) then
        if r.2 = (-1 : Int) then
          (arena_Same F r.1 (⟨two (5 + wi n 50)⟩ : arena_Tree)).bind fun r2 =>
          if r2 = true then
            if (r.1.Nodes.length : Int) = (2 : Int) then some true else some false
          else some false
        else some false
      else some false) = some true := by
    intro up kind frm to h
    rw [hno _ _ _ _ h]
    simp only [Option.bind_some, if_true, hsame]
    rw [if_pos (by simp [two])]
  have e1 : w64 (5 + wi n 50) = 5 + wi n 50 := w64_eq (by omega) (by omega)
  have e2 : w64 (1 + wi by_ 9) = 1 + wi by_ 9 := w64_eq (by omega) (by omega)
  have len2 : ((two (5 + wi n 50)).length : Int) = 2 := by simp [two]
  unfold correctorlaw10_ArenaRefuses
  simp only [known_eq, within_eq F n 50 (by omega) (by omega), within_eq F by_ 9 (by omega) (by omega), within_eq F which 8 (by omega) (by omega), Option.bind_some, if_true, e1, e2]
  rw [new_eq F _ (by omega) (by omega)]
  simp only [Option.bind_some]
  rw [two_made F _ (by omega) (by omega)]
  simp only [Option.bind_some]
  have hc : wi which 8 = 0 ∨ wi which 8 = 1 ∨ wi which 8 = 2 ∨ wi which 8 = 3 ∨ wi which 8 = 4 ∨ wi which 8 = 5 ∨ wi which 8 = 6 ∨ wi which 8 = 7 := by omega
  have e3 : w64 (0 - (1 + wi by_ 9)) = 0 - (1 + wi by_ 9) := w64_eq (by omega) (by omega)
  have e4 : w64 (1 + (1 + wi by_ 9)) = 1 + (1 + wi by_ 9) := w64_eq (by omega) (by omega)
  have e5 : w64 (11 + (1 + wi by_ 9)) = 11 + (1 + wi by_ 9) := w64_eq (by omega) (by omega)
  have e6 : w64 (4 + (1 + wi by_ 9)) = 4 + (1 + wi by_ 9) := w64_eq (by omega) (by omega)
  have e7 : w64 (5 + wi n 50 + (1 + wi by_ 9)) = 5 + wi n 50 + (1 + wi by_ 9) := w64_eq (by omega) (by omega)
  rcases hc with h | h | h | h | h | h | h | h <;> simp (config := { decide := true }) only [h, if_true, if_false, Option.bind_some]
  · rw [e3]; exact fin _ _ _ _ (fun q => by have := q.1; omega)
  · rw [e4]; exact fin _ _ _ _ (fun q => by have := q.2.1; omega)
  · exact fin _ _ _ _ (fun q => by have := q.2.2.1; omega)
  · rw [e5]; exact fin _ _ _ _ (fun q => by have := q.2.2.2.1; omega)
  · rw [e6]; exact fin _ _ _ _ (fun q => by have := q.2.2.2.2.1; omega)
  · rw [e7]
    refine fin _ _ _ _ (fun q => ?_)
    obtain ⟨x, hx, hle⟩ := q.2.2.2.2.2.1
    simp [two] at hx
    subst hx
    simp only at hle
    omega
  · refine fin _ _ _ _ (fun q => ?_)
    obtain ⟨e, he, hle⟩ := q.2.2.2.2.2.2
    simp [two, endOf, imax] at he
    omega
  · refine fin _ _ _ _ (fun q => ?_)
    obtain ⟨e, he, hle⟩ := q.2.2.2.2.2.2
    simp [two, endOf] at he
    omega
end Go.Proofs.Ytpijjenaadkjdaa.M
