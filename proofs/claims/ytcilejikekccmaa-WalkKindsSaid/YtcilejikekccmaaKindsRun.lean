/- WalkKinds: what is known of two of its callees beforehand, by the abstract machine. -/
import Derived.Test.YtcilejikekccmaaAmU
import Derived.Test.YtcilejikekccmaaChecked
import Derived.KernelRfl
namespace Go.Proofs.Ytcilejikekccmaa.Am
open Go
/-- 'known' answers true; 'within' of the number that is not known and 13 answers k. -/
def ovK (k : Int) : ACallee := fun f args h => match f, args with
  | 7, [] => some (.bool true, h)
  | 9, [.float _ _, .int .i64 13] => some (.int .i64 k, h)
  | _, _ => Option.none
theorem prog_ok : ProgOk Try.prog := ⟨by kernel_rfl, by kernel_rfl⟩
theorem known_run : (aCall Try.prog noOv 300 7 [] .none).map (·.1) = some (.bool true) := by kernel_rfl
end Go.Proofs.Ytcilejikekccmaa.Am
