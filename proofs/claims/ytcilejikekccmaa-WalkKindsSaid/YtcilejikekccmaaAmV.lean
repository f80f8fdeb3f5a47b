/- The abstract machine: steps by hand, for what the kernel cannot run by itself. -/
import Derived.Test.YtcilejikekccmaaAmU
namespace Go.Proofs.Ytcilejikekccmaa.Am
open Go
set_option linter.unusedVariables false
def cL : Code → Code
  | .seq a _ => a
  | .cond _ a _ => a
  | c => c
def cR : Code → Code
  | .seq _ b => b
  | .cond _ _ b => b
  | c => c
def cI : Code → Code
  | .block _ c => c
  | .loop c => c
  | .scope c => c
  | c => c
def bodyOf (f : Func) : Code := f.body.getD .skip
section
variable {P : Program} {call : ACallee} {k : Nat} {c : Code} {e e1 : Env} {h h1 : AH} {r : ARes}
theorem seqN (hc : c = .seq (cL c) (cR c)) (h2 : aCode P call k (cL c) e h = some (.normal, e1, h1)) (h3 : aCode P call k (cR c) e1 h1 = r) : aCode P call (k + 1) c e h = r := by
  rw [hc]
  simp only [aCode]
  rw [h2]
  exact h3
theorem condN {x : Operand} {b : Bool} (hc : c = .cond x (cL c) (cR c)) (hb : e.ev x = .bool b) (h2 : aCode P call k (if b then cL c else cR c) e h = r) : aCode P call (k + 1) c e h = r := by
  rw [hc]
  simp only [aCode]
  rw [hb]
  exact h2
theorem aCall_body {ov : ACallee} {f : FuncId} {fn : Func} {args : List Value} {x : AEx} {v : Value} (ho : ov f args h = none) (hf : P.funcs[f]? = some fn) (hb : fn.body = some c) (hn : args.length ≤ fn.ntmps)
    (hc : aCode P (aCall P ov k) k c (Env.ofArgs 0 args .nil) { h with low := h.next } = some (x, e, h1)) (hx : x = .normal ∨ x = .ret) (hr : aResults P fn.results.toList e h1 = some v) : aCall P ov (k + 1) f args h = some (aLeave h v h1) := by
  rw [aCall, ho]
  simp only [hf, hb, Option.bind_some, if_pos hn]
  rcases hx with rfl | rfl <;> simp only [hc, hr, Option.map_some]
theorem aLeave_still {h : AH} {v : Value} (hv : clean v = true) : aLeave h v { h with low := h.next } = (v, h) := by
  unfold aLeave
  rw [if_pos ⟨Nat.le_refl _, hv⟩]
end
theorem wrap_small {x : Int} (h0 : 0 ≤ x) (h1 : x < 9223372036854775808) : IntKind.i64.wrap x = x := by
  have hm : x % (2 ^ IntKind.i64.bits : Int) = x := Int.emod_eq_of_lt h0 (by show x < (18446744073709551616 : Int); omega)
  unfold IntKind.wrap
  simp only [hm]
  have : ¬ (x ≥ (2 ^ (IntKind.i64.bits - 1) : Int)) := by show ¬ (x ≥ (9223372036854775808 : Int)); omega
  simp [this]
end Go.Proofs.Ytcilejikekccmaa.Am
