/- FlowOpen, plainly. -/
import Derived.Test.YtahcngeimlkcgaaP11A
import Derived.Test.YtahcngeimlkcgaaML0
namespace Go.Proofs.Ytahcngeimlkcgaa.M
open Go Am Sy
set_option linter.unusedVariables false
set_option linter.unusedSimpArgs false
set_option maxRecDepth 100000
theorem open_l0_same (F : Nat) (a : Int) (m : Bool) : correctorlaw11_FlowOpen_l0 F a m = correctorlaw11_FlowOpen_l0 F 0 false := by
  funext n
  induction n with
  | zero => rfl
  | succ n ih =>
    funext x y z
    rw [correctorlaw11_FlowOpen_l0, correctorlaw11_FlowOpen_l0, ih]
theorem open_l1_same (F : Nat) (a : Int) (m : Bool) : correctorlaw11_FlowOpen_l1 F a m = correctorlaw11_FlowOpen_l1 F 0 false := by
  funext n
  induction n with
  | zero => rfl
  | succ n ih =>
    funext x y z u v
    rw [correctorlaw11_FlowOpen_l1, correctorlaw11_FlowOpen_l1, ih]
theorem open_l2_same (F : Nat) (a : Int) (m : Bool) : correctorlaw11_FlowOpen_l2 F a m = correctorlaw11_FlowOpen_l2 F 0 false := by
  funext n
  induction n with
  | zero => rfl
  | succ n ih =>
    funext x y z u
    rw [correctorlaw11_FlowOpen_l2, correctorlaw11_FlowOpen_l2, ih]
theorem open_red (F : Nat) (a : Int) (m : Bool) : correctorlaw11_FlowOpen F a m = correctorlaw11_FlowOpen F (wi a 8) m := by
  unfold correctorlaw11_FlowOpen
  rw [within_eq F a 8 (by decide) (by decide), within_eq F (wi a 8) 8 (by decide) (by decide), wi_wi8, open_l0_same F a, open_l1_same F a, open_l2_same F a, open_l0_same F (wi a 8), open_l1_same F (wi a 8), open_l2_same F (wi a 8)]
theorem open_all : ∀ k : Fin 8, ∀ m : Bool, correctorlaw11_FlowOpen 3000 (k : Nat) m = some true := by decide +kernel
theorem open_holds (F : Nat) (a : Int) (m : Bool) (hF : F = 3000) : correctorlaw11_FlowOpen F a m = some true := by
  subst hF
  obtain ⟨h1, h2⟩ := wi_range a 8 (by decide)
  rw [open_red]
  have := open_all ⟨(wi a 8).toNat, by omega⟩ m
  simp only [Int.toNat_of_nonneg h1] at this
  exact this
end Go.Proofs.Ytahcngeimlkcgaa.M
