/- From a run of the machine to the model's call: for functions of plain arguments. -/
import Derived.Test.YtahcngeimlkcgaaSyF
import Derived.Test.YtahcngeimlkcgaaChecked
import Derived.KernelRfl
namespace Go.Proofs.Ytahcngeimlkcgaa.M
open Go Am Sy
theorem inv_none : Inv (fun _ => none) AH.none := ⟨fun b cs h => (by cases h), fun b h => absurd (by simp [AH.none, AH.blk, Tr.get]) h⟩
theorem prog_ok [Marks] : ProgOk Go.Proofs.Try.prog := ⟨by kernel_rfl, by kernel_rfl⟩
theorem calls_true [Marks] {f : FuncId} {args args' : List Value} {h' : AH} (hc : callI Go.Proofs.Try.prog f args AH.none = some (.bool true, h')) (hl : LR ρ0 args args') (w : World) :
  Calls Go.Proofs.Try.prog f args'.toArray w fun e w' => e = .returned (.bool true) ∧ Grew w w' := by
 obtain ⟨k, hk⟩ := of_callI hc
 refine (calls_of_run prog_ok noOv_good.1 (noOv_good (P := Go.Proofs.Try.prog)).2 hk hl rfl w).mono fun e w' hq => ?_
 obtain ⟨v', h1, h2, h3⟩ := hq
 cases h2
 exact ⟨h1, h3⟩
end Go.Proofs.Ytahcngeimlkcgaa.M
