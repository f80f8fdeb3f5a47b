/- FlowDeep at all numbers, part 2. -/
import Derived.Test.YtahcngeimlkcgaaP11A
import Derived.Test.YtahcngeimlkcgaaML0
namespace Go.Proofs.Ytahcngeimlkcgaa.M
open Go Am Sy
set_option maxRecDepth 100000
theorem deep_12 : ∀ d : Fin 20, correctorlaw11_FlowDeep 3000 (12 : Nat) (d : Nat) = some true := by decide +kernel
theorem deep_13 : ∀ d : Fin 20, correctorlaw11_FlowDeep 3000 (13 : Nat) (d : Nat) = some true := by decide +kernel
theorem deep_14 : ∀ d : Fin 20, correctorlaw11_FlowDeep 3000 (14 : Nat) (d : Nat) = some true := by decide +kernel
end Go.Proofs.Ytahcngeimlkcgaa.M
