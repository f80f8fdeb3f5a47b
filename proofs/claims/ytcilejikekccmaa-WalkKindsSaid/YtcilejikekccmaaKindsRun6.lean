/- WalkKinds at the byte 6: the abstract machine's run, by the kernel. -/
import Derived.Test.YtcilejikekccmaaKindsRun
namespace Go.Proofs.Ytcilejikekccmaa.Am
open Go
theorem kinds_run6 : (aCall Try.prog (ovK 6) 300 3 [.float .f64 0] .none).map (·.1) = some (.bool true) := by kernel_rfl
end Go.Proofs.Ytcilejikekccmaa.Am
