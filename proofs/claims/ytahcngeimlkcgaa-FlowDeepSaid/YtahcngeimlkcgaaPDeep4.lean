/- FlowDeep at all numbers, part 4. -/
import Derived.Test.YtahcngeimlkcgaaP11A
import Derived.Test.YtahcngeimlkcgaaML0
namespace Go.Proofs.Ytahcngeimlkcgaa.M
open Go Am Sy
set_option maxRecDepth 100000
theorem deep_18 : ∀ d : Fin 20, correctorlaw11_FlowDeep 3000 (18 : Nat) (d : Nat) = some true := by decide +kernel
theorem deep_19 : ∀ d : Fin 20, correctorlaw11_FlowDeep 3000 (19 : Nat) (d : Nat) = some true := by decide +kernel
end Go.Proofs.Ytahcngeimlkcgaa.M
