/- FlowDeep at all numbers, part 3. -/
import Derived.Test.YtahcngeimlkcgaaP11A
import Derived.Test.YtahcngeimlkcgaaML0
namespace Go.Proofs.Ytahcngeimlkcgaa.M
open Go Am Sy
set_option maxRecDepth 100000
theorem deep_15 : ∀ d : Fin 20, correctorlaw11_FlowDeep 3000 (15 : Nat) (d : Nat) = some true := by decide +kernel
theorem deep_16 : ∀ d : Fin 20, correctorlaw11_FlowDeep 3000 (16 : Nat) (d : Nat) = some true := by decide +kernel
theorem deep_17 : ∀ d : Fin 20, correctorlaw11_FlowDeep 3000 (17 : Nat) (d : Nat) = some true := by decide +kernel
end Go.Proofs.Ytahcngeimlkcgaa.M
