/- RowsKinds, plainly. -/
import Derived.Test.YtcnbcimnfeekjaaP9A
import Derived.Test.YtcnbcimnfeekjaaMLK0
namespace Go.Proofs.Ytcnbcimnfeekjaa.M
open Go Am Sy
set_option linter.unusedVariables false
set_option linter.unusedSimpArgs false
set_option maxRecDepth 100000
theorem kinds_l0_same (F : Nat) (a : Int) : correctorlaw9_RowsKinds_l0 F a = correctorlaw9_RowsKinds_l0 F 0 := by
  funext n
  induction n with
  | zero => rfl
  | succ n ih =>
    funext x y z w
    rw [correctorlaw9_RowsKinds_l0, correctorlaw9_RowsKinds_l0, ih]
theorem kinds_holds (F : Nat) (a : Int) (hF : F = 3000) : correctorlaw9_RowsKinds F a = some true := by
  subst hF
  unfold correctorlaw9_RowsKinds
  rw [known9]
  simp only [Option.bind_some, if_true]
  rw [within9_eq _ _ _ (by decide) (by decide)]
  simp only [Option.bind_some]
  obtain ⟨h1, h2⟩ := wi_range a 10 (by decide)
  have e : ∀ x : List Str, x.length = 10 → ∀ k : Int, wi a (x.length : Int) = k → wi a 10 = k := by intro x hx k hk; rw [hx] at hk; exact hk
  generalize hk : wi a _ = k
  have hk' : wi a 10 = k := e _ rfl k hk
  rw [hk'] at h1 h2
  have : k = 0 ∨ k = 1 ∨ k = 2 ∨ k = 3 ∨ k = 4 ∨ k = 5 ∨ k = 6 ∨ k = 7 ∨ k = 8 ∨ k = 9 := by omega
  clear e hk hk' h1 h2
  rw [kinds_l0_same]
  rcases this with rfl | rfl | rfl | rfl | rfl | rfl | rfl | rfl | rfl | rfl <;> decide +kernel
end Go.Proofs.Ytcnbcimnfeekjaa.M
