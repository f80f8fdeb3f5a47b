/- Numbers of the laws of brackets. -/
import Derived.Test.YtahcngeimlkcgaaMF1
namespace Go.Proofs.Ytahcngeimlkcgaa.M
open Go Am Sy
set_option linter.unusedVariables false
set_option linter.unusedSimpArgs false
set_option maxRecDepth 100000
def wi (a n : Int) : Int := if a.tmod n < 0 then a.tmod n + n else a.tmod n
theorem wi_range (a n : Int) (hn : 0 < n) : 0 ≤ wi a n ∧ wi a n < n := by
 unfold wi
 have h1 := Int.tmod_lt_of_pos a hn
 have h2 := Int.lt_tmod_of_pos a hn
 split <;> omega
theorem wi_wi (a : Int) : wi (wi a 20) 20 = wi a 20 := by
 obtain ⟨h1, h2⟩ := wi_range a 20 (by decide)
 generalize wi a 20 = k at *
 unfold wi
 rw [Int.tmod_eq_of_lt h1 h2, if_neg (by omega)]
theorem wi_wi8 (a : Int) : wi (wi a 8) 8 = wi a 8 := by
 obtain ⟨h1, h2⟩ := wi_range a 8 (by decide)
 generalize wi a 8 = k at *
 unfold wi
 rw [Int.tmod_eq_of_lt h1 h2, if_neg (by omega)]
theorem within_eq (F : Nat) (a n : Int) (hn : 0 < n) (hm : n ≤ 1000000000) : correctorlaw11_within F a n = some (wi a n) := by
 unfold correctorlaw11_within
 have h1 := Int.tmod_lt_of_pos a hn
 have h2 := Int.lt_tmod_of_pos a hn
 rw [if_pos (by omega)]
 by_cases h : a.tmod n < 0
 ·rw [if_pos h]
  simp only [Option.bind_some]
  unfold wi
  rw [if_pos h, w64_eq (by omega) (by omega)]
 ·rw [if_neg h]
  simp only [Option.bind_some]
  unfold wi
  rw [if_neg h]
theorem known_eq : correctorlaw11_known 3000 = some true := by decide +kernel
end Go.Proofs.Ytahcngeimlkcgaa.M
