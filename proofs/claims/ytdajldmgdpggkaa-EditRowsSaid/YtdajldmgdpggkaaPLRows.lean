/- EditRows, plainly. -/
import Derived.Test.YtdajldmgdpggkaaP4D
import Derived.Test.YtdajldmgdpggkaaMLRows0
namespace Go.Proofs.Ytdajldmgdpggkaa.M
open Go Am Sy
set_option linter.unusedVariables false
set_option linter.unusedSimpArgs false
theorem rows_holds (F : Nat) (n which b : Int) (hF : 3000 ≤ F) : correctorlaw4_EditRows F n which b = some true := by
  unfold correctorlaw4_EditRows
  rw [known_eq F (by omega)]
  simp only [Option.bind_some, if_true]
  obtain ⟨q1, q2⟩ := wi_range n 50 (by omega)
  obtain ⟨q3, q4⟩ := wi_range b 9 (by omega)
  rw [within_eq F _ _ (by omega) (by omega)]
  simp only [Option.bind_some]
  rw [within_eq F _ _ (by omega) (by omega)]
  simp only [Option.bind_some]
  generalize wi n 50 = N at *
  generalize wi b 9 = B at *
  obtain ⟨q5, q6⟩ := wi_range which 7 (by omega)
  rw [within_eq F _ _ (by omega) (by omega)]
  simp only [Option.bind_some]
  generalize wi which 7 = w at *
  have e1 : w64 (1 + B) = 1 + B := w64_eq (by omega) (by omega)
  have e2 : w64 (5 + N) = 5 + N := w64_eq (by omega) (by omega)
  have e3 : w64 (0 - (1 + B)) = 0 - (1 + B) := w64_eq (by omega) (by omega)
  have e4 : w64 (5 + N + (1 + B)) = 5 + N + (1 + B) := w64_eq (by omega) (by omega)
  have e5 : w64 (1000 + (1 + B)) = 1000 + (1 + B) := w64_eq (by omega) (by omega)
  have e6 : w64 (200 + (1 + B)) = 200 + (1 + B) := w64_eq (by omega) (by omega)
  simp only [e1, e2, e3, e4, e5, e6]
  have i0 : [(⟨1, 3, (⟨[120]⟩ : Str)⟩ : api_Edit), (⟨3, 4, (⟨[]⟩ : Str)⟩ : api_Edit)][(0 : Int).toNat]? = some ⟨1, 3, ⟨[120]⟩⟩ := rfl
  have i1 : [(⟨1, 3, (⟨[120]⟩ : Str)⟩ : api_Edit), (⟨3, 4, (⟨[]⟩ : Str)⟩ : api_Edit)][(1 : Int).toNat]? = some ⟨3, 4, ⟨[]⟩⟩ := rfl
  have b0 : (0 : Int) ≤ (0 : Int) ∧ (0 : Int) < ([(⟨1, 3, (⟨[120]⟩ : Str)⟩ : api_Edit), (⟨3, 4, (⟨[]⟩ : Str)⟩ : api_Edit)].length : Int) := by decide
  have b1 : (0 : Int) ≤ (1 : Int) ∧ (1 : Int) < ([(⟨1, 3, (⟨[120]⟩ : Str)⟩ : api_Edit), (⟨3, 4, (⟨[]⟩ : Str)⟩ : api_Edit)].length : Int) := by decide
  simp only [i0, i1, if_pos b0, if_pos b1, Option.bind_some, check_eq F _ _ (show 300 < F by omega)]
  have z0 : (0 : Int).toNat = 0 := rfl
  have z1 : (1 : Int).toNat = 1 := rfl
  simp only [z0, z1, List.set_cons_zero, List.set_cons_succ]
  have fin : ∀ (m k : Int) (l : List api_Edit), checkV m l = k → ((some (checkV m l)).bind fun r => if r = k then some true else some false) = some true := fun m k l h => by
    simp only [Option.bind_some, h, if_true]
  by_cases h0 : w = 0
  · rw [if_pos h0]
    simp only [Option.bind_some]
    rw [if_pos]
    simp only [checkV, checkL, oneV]; simp; omega
  rw [if_neg h0]
  by_cases h1 : w = 1
  · rw [if_pos h1]
    simp only [Option.bind_some]
    rw [if_pos]
    simp only [checkV, checkL, oneV, overP]; simp; omega
  rw [if_neg h1]
  by_cases h2 : w = 2
  · rw [if_pos h2]
    simp only [Option.bind_some]
    rw [if_pos]
    simp only [checkV, checkL, oneV, overP]; simp
  rw [if_neg h2]
  by_cases h3 : w = 3
  · rw [if_pos h3, if_pos ⟨by omega, by omega⟩]
    simp only [Option.bind_some]
    rw [if_pos]
    simp only [checkV, checkL, oneV, overP, List.length_replicate]; simp; omega
  rw [if_neg h3]
  by_cases h4 : w = 4
  · rw [if_pos h4]
    simp only [Option.bind_some]
    rw [if_pos]
    simp only [checkV, checkL, oneV, overP]; simp; omega
  rw [if_neg h4]
  by_cases h5 : w = 5
  · rw [if_pos h5, if_pos ⟨by omega, by omega⟩]
    simp only [Option.bind_some]
    rw [if_pos]
    simp only [checkV, List.length_replicate]
    rw [if_pos (by omega)]
  rw [if_neg h5, if_pos (by omega)]
  simp only [Option.bind_some]
  rw [if_pos]
  simp only [checkV, checkL, oneV, overP]; simp; omega
end Go.Proofs.Ytdajldmgdpggkaa.M
