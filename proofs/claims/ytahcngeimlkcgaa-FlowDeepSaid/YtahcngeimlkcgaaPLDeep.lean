/- FlowDeep, plainly. -/
import Derived.Test.YtahcngeimlkcgaaPDeep0
import Derived.Test.YtahcngeimlkcgaaPDeep1
import Derived.Test.YtahcngeimlkcgaaPDeep2
import Derived.Test.YtahcngeimlkcgaaPDeep3
import Derived.Test.YtahcngeimlkcgaaPDeep4
namespace Go.Proofs.Ytahcngeimlkcgaa.M
open Go Am Sy
set_option linter.unusedVariables false
set_option linter.unusedSimpArgs false
set_option maxRecDepth 100000
theorem deep_l0_same (F : Nat) (a b : Int) : correctorlaw11_FlowDeep_l0 F a b = correctorlaw11_FlowDeep_l0 F 0 0 := by
  funext n
  induction n with
  | zero => rfl
  | succ n ih =>
    funext x y z w
    rw [correctorlaw11_FlowDeep_l0, correctorlaw11_FlowDeep_l0, ih]
theorem deep_l1_same (F : Nat) (a b : Int) : correctorlaw11_FlowDeep_l1 F a b = correctorlaw11_FlowDeep_l1 F 0 0 := by
  funext n
  induction n with
  | zero => rfl
  | succ n ih =>
    funext x y z w
    rw [correctorlaw11_FlowDeep_l1, correctorlaw11_FlowDeep_l1, ih]
theorem deep_red (F : Nat) (a b : Int) : correctorlaw11_FlowDeep F a b = correctorlaw11_FlowDeep F (wi a 20) (wi b 20) := by
  unfold correctorlaw11_FlowDeep
  rw [within_eq F a 20 (by decide) (by decide), within_eq F b 20 (by decide) (by decide), within_eq F (wi a 20) 20 (by decide) (by decide), within_eq F (wi b 20) 20 (by decide) (by decide), wi_wi, wi_wi, deep_l0_same F a b, deep_l1_same F a b, deep_l0_same F (wi a 20), deep_l1_same F (wi a 20)]
theorem deep_all (k : Nat) (hk : k < 20) (d : Fin 20) : correctorlaw11_FlowDeep 3000 (k : Nat) (d : Nat) = some true := by
  have : k = 0 ∨ k = 1 ∨ k = 2 ∨ k = 3 ∨ k = 4 ∨ k = 5 ∨ k = 6 ∨ k = 7 ∨ k = 8 ∨ k = 9 ∨ k = 10 ∨ k = 11 ∨ k = 12 ∨ k = 13 ∨ k = 14 ∨ k = 15 ∨ k = 16 ∨ k = 17 ∨ k = 18 ∨ k = 19 := by omega
  rcases this with rfl | rfl | rfl | rfl | rfl | rfl | rfl | rfl | rfl | rfl | rfl | rfl | rfl | rfl | rfl | rfl | rfl | rfl | rfl | rfl
  · exact deep_0 d
  · exact deep_1 d
  · exact deep_2 d
  · exact deep_3 d
  · exact deep_4 d
  · exact deep_5 d
  · exact deep_6 d
  · exact deep_7 d
  · exact deep_8 d
  · exact deep_9 d
  · exact deep_10 d
  · exact deep_11 d
  · exact deep_12 d
  · exact deep_13 d
  · exact deep_14 d
  · exact deep_15 d
  · exact deep_16 d
  · exact deep_17 d
  · exact deep_18 d
  · exact deep_19 d
theorem deep_holds (F : Nat) (a b : Int) (hF : F = 3000) : correctorlaw11_FlowDeep F a b = some true := by
  subst hF
  obtain ⟨h1, h2⟩ := wi_range a 20 (by decide)
  obtain ⟨h3, h4⟩ := wi_range b 20 (by decide)
  rw [deep_red]
  have := deep_all (wi a 20).toNat (by omega) ⟨(wi b 20).toNat, by omega⟩
  simp only [Int.toNat_of_nonneg h1, Int.toNat_of_nonneg h3] at this
  exact this
end Go.Proofs.Ytahcngeimlkcgaa.M
