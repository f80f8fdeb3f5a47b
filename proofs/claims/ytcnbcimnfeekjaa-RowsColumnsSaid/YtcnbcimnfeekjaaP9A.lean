/- Rows, plainly: numbers, and what is known. -/
import Derived.Test.YtcnbcimnfeekjaaMN0
namespace Go.Proofs.Ytcnbcimnfeekjaa.M
open Go Am Sy
set_option linter.unusedVariables false
set_option linter.unusedSimpArgs false
set_option maxRecDepth 100000
/-- The rest that is not below nothing. -/
def wi (a n : Int) : Int := if a.tmod n < 0 then a.tmod n + n else a.tmod n
theorem wi_range (a n : Int) (hn : 0 < n) : 0 ≤ wi a n ∧ wi a n < n := by
  unfold wi
  have h1 := Int.tmod_lt_of_pos a hn
  have h2 := Int.lt_tmod_of_pos a hn
  split <;> omega
theorem within9_eq (F : Nat) (a n : Int) (hn : 0 < n) (hm : n ≤ 1000000000) : correctorlaw9_within F a n = some (wi a n) := by
  unfold correctorlaw9_within
  have h1 := Int.tmod_lt_of_pos a hn
  have h2 := Int.lt_tmod_of_pos a hn
  rw [if_pos (by omega)]
  by_cases h : a.tmod n < 0
  · rw [if_pos h]
    simp only [Option.bind_some]
    unfold wi
    rw [if_pos h, w64_eq (by omega) (by omega)]
  · rw [if_neg h]
    simp only [Option.bind_some]
    unfold wi
    rw [if_neg h]
theorem known9 : correctorlaw9_known 3000 = some true := by decide +kernel
end Go.Proofs.Ytcnbcimnfeekjaa.M
