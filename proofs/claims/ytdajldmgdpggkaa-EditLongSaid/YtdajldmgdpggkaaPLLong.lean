/- EditLong, plainly. -/
import Derived.Test.YtdajldmgdpggkaaP4D
import Derived.Test.YtdajldmgdpggkaaMLLong0
namespace Go.Proofs.Ytdajldmgdpggkaa.M
open Go Am Sy
set_option linter.unusedVariables false
set_option linter.unusedSimpArgs false
theorem long_holds (F : Nat) (n m : Int) (hF : 3000 ≤ F) : correctorlaw4_EditLong F n m = some true := by
  unfold correctorlaw4_EditLong
  rw [known_eq F (by omega)]
  simp only [Option.bind_some, if_true]
  obtain ⟨q1, q2⟩ := wi_range n 20 (by omega)
  obtain ⟨q3, q4⟩ := wi_range m 30 (by omega)
  rw [within_eq F _ _ (by omega) (by omega)]
  simp only [Option.bind_some]
  rw [within_eq F _ _ (by omega) (by omega)]
  simp only [Option.bind_some]
  generalize wi n 20 = a at *
  generalize wi m 30 = c at *
  have e1 : w64 (16384 - a) = 16384 - a := w64_eq (by omega) (by omega)
  have e2 : w64 (16384 - a + c) = 16384 - a + c := w64_eq (by omega) (by omega)
  simp only [e1, e2]
  rw [if_pos ⟨by omega, by omega⟩, if_pos ⟨by omega, by omega⟩]
  obtain ⟨k, hk⟩ : ∃ k : Nat, (k : Int) = 16384 - a := ⟨(16384 - a).toNat, by omega⟩
  obtain ⟨j, hj⟩ : ∃ j : Nat, (j : Int) = c := ⟨c.toNat, by omega⟩
  rw [← hk, ← hj]
  simp only [Int.toNat_natCast]
  have hlen : (List.replicate k (0 : UInt8)).length = k := List.length_replicate
  have hc : checkV ((List.replicate k (0 : UInt8)).length : Int) [(⟨(k : Int), (k : Int), (⟨List.replicate j 0⟩ : Str)⟩ : api_Edit)] = 0 := checkV_fine.2 ⟨by simp, by show (0 : Int) ≤ (k : Int); omega, Int.le_refl _, by rw [hlen]; exact Int.le_refl _, by simp; omega, trivial⟩
  have hd : (doneL (List.replicate k (0 : UInt8)) [(⟨(k : Int), (k : Int), (⟨List.replicate j 0⟩ : Str)⟩ : api_Edit)]).length = k + j := by
    simp [doneL, outL, lastTo]
  rw [apply_eq F _ _ (by rw [hlen]; omega) (by omega)]
  simp only [Option.bind_some]
  unfold applyV
  rw [if_pos hc, hd]
  by_cases h : 16384 < k + j
  · rw [if_pos h, if_pos (by omega)]
    simp
  · rw [if_neg h, if_neg (by omega)]
    simp [hd]
end Go.Proofs.Ytdajldmgdpggkaa.M
