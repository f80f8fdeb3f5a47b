/- FlowDeep at all numbers, part 0. -/
import Derived.Test.YtahcngeimlkcgaaP11A
import Derived.Test.YtahcngeimlkcgaaML0
namespace Go.Proofs.Ytahcngeimlkcgaa.M
open Go Am Sy
set_option maxRecDepth 100000
theorem deep_0 : ∀ d : Fin 20, correctorlaw11_FlowDeep 3000 (0 : Nat) (d : Nat) = some true := by decide +kernel
theorem deep_1 : ∀ d : Fin 20, correctorlaw11_FlowDeep 3000 (1 : Nat) (d : Nat) = some true := by decide +kernel
theorem deep_2 : ∀ d : Fin 20, correctorlaw11_FlowDeep 3000 (2 : Nat) (d : Nat) = some true := by decide +kernel
theorem deep_3 : ∀ d : Fin 20, correctorlaw11_FlowDeep 3000 (3 : Nat) (d : Nat) = some true := by decide +kernel
theorem deep_4 : ∀ d : Fin 20, correctorlaw11_FlowDeep 3000 (4 : Nat) (d : Nat) = some true := by decide +kernel
theorem deep_5 : ∀ d : Fin 20, correctorlaw11_FlowDeep 3000 (5 : Nat) (d : Nat) = some true := by decide +kernel
theorem deep_6 : ∀ d : Fin 20, correctorlaw11_FlowDeep 3000 (6 : Nat) (d : Nat) = some true := by decide +kernel
theorem deep_7 : ∀ d : Fin 20, correctorlaw11_FlowDeep 3000 (7 : Nat) (d : Nat) = some true := by decide +kernel
end Go.Proofs.Ytahcngeimlkcgaa.M
