/- FlowDeep at all numbers, part 1. -/
import Derived.Test.YtahcngeimlkcgaaP11A
import Derived.Test.YtahcngeimlkcgaaML0
namespace Go.Proofs.Ytahcngeimlkcgaa.M
open Go Am Sy
set_option maxRecDepth 100000
theorem deep_8 : ∀ d : Fin 20, correctorlaw11_FlowDeep 3000 (8 : Nat) (d : Nat) = some true := by decide +kernel
theorem deep_9 : ∀ d : Fin 20, correctorlaw11_FlowDeep 3000 (9 : Nat) (d : Nat) = some true := by decide +kernel
theorem deep_10 : ∀ d : Fin 20, correctorlaw11_FlowDeep 3000 (10 : Nat) (d : Nat) = some true := by decide +kernel
theorem deep_11 : ∀ d : Fin 20, correctorlaw11_FlowDeep 3000 (11 : Nat) (d : Nat) = some true := by decide +kernel
end Go.Proofs.Ytahcngeimlkcgaa.M
