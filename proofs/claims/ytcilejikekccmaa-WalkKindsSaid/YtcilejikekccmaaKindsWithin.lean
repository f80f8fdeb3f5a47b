/- WalkKinds: what 'within' answers of a number and 13. -/
import Derived.Test.YtcilejikekccmaaKindsRun
import Derived.Test.YtcilejikekccmaaAmV
namespace Go.Proofs.Ytcilejikekccmaa.Am
open Go
def rest (a : Int) : Int := if a.tmod 13 < 0 then a.tmod 13 + 13 else a.tmod 13
def e0 (a : Int) : Env := Env.ofArgs 0 [.int .i64 a, .int .i64 13] .nil
def e1 (a : Int) : Env := (e0 a).set 4 (.int .i64 0)
def e2 (a : Int) : Env := ((((e1 a).set 6 (.int .i64 a)).set 7 (.int .i64 13)).set 8 (.int .i64 (a.tmod 13))).set 5 (.int .i64 (a.tmod 13))
def e3 (a : Int) : Env := ((e2 a).set 9 (.int .i64 (a.tmod 13))).set 10 (.bool (decide (a.tmod 13 < 0)))
def e4 (a : Int) : Env := ((((e3 a).set 11 (.int .i64 (a.tmod 13))).set 12 (.int .i64 13)).set 13 (.int .i64 (IntKind.i64.wrap (a.tmod 13 + 13)))).set 5 (.int .i64 (IntKind.i64.wrap (a.tmod 13 + 13)))
def e5 (e : Env) (x : Int) : Env := (e.set 14 (.int .i64 x)).set 4 (.int .i64 x)
theorem within_run (a : Int) (h : AH) : aCall Try.prog noOv 20 9 [.int .i64 a, .int .i64 13] h = some (.int .i64 (rest a), h) := by
  have h1 := Int.tmod_lt_of_pos a (show (0 : Int) < 13 by decide)
  have h2 : -13 < a.tmod 13 := by
    have := Int.lt_tmod_of_pos a (show (0 : Int) < 13 by decide)
    omega
  have main : ∀ e, aCode Try.prog (aCall Try.prog noOv 19) 19 (bodyOf Try.f9) (e0 a) { h with low := h.next } = some (.ret, e, { h with low := h.next }) → e.get 4 = .int .i64 (rest a) →
      aCall Try.prog noOv 20 9 [.int .i64 a, .int .i64 13] h = some (.int .i64 (rest a), h) := by
    intro e hc he
    rw [aCall_body (f := 9) (fn := Try.f9) (c := bodyOf Try.f9) (v := .int .i64 (rest a)) rfl (by kernel_rfl) (by kernel_rfl) (Nat.le_of_ble_eq_true (by kernel_rfl)) hc (.inr rfl) ?_, aLeave_still rfl]
    have hres : Try.f9.results.toList = [.tmp 4] := by kernel_rfl
    rw [hres]
    simp [aResults, aResult, he]
  by_cases hr : a.tmod 13 < 0
  · have hw := wrap_small (x := a.tmod 13 + 13) (by omega) (by omega)
    refine main (e5 (e4 a) (IntKind.i64.wrap (a.tmod 13 + 13))) ?_ ?_
    · refine seqN (e1 := e1 a) (h1 := { h with low := h.next }) (by kernel_rfl) (by kernel_rfl) ?_
      refine seqN (e1 := e2 a) (h1 := { h with low := h.next }) (by kernel_rfl) (by kernel_rfl) ?_
      refine seqN (e1 := e4 a) (h1 := { h with low := h.next }) (by kernel_rfl) ?_ (by kernel_rfl)
      refine seqN (e1 := e3 a) (h1 := { h with low := h.next }) (by kernel_rfl) (by kernel_rfl) ?_
      refine condN (x := .tmp 10) (b := decide (a.tmod 13 < 0)) (by kernel_rfl) (by kernel_rfl) ?_
      rw [decide_eq_true hr]
      kernel_rfl
    · unfold rest
      rw [if_pos hr, hw, e5, Env.get_set, if_pos rfl]
  · refine main (e5 (e3 a) (a.tmod 13)) ?_ ?_
    · refine seqN (e1 := e1 a) (h1 := { h with low := h.next }) (by kernel_rfl) (by kernel_rfl) ?_
      refine seqN (e1 := e2 a) (h1 := { h with low := h.next }) (by kernel_rfl) (by kernel_rfl) ?_
      refine seqN (e1 := e3 a) (h1 := { h with low := h.next }) (by kernel_rfl) ?_ (by kernel_rfl)
      refine seqN (e1 := e3 a) (h1 := { h with low := h.next }) (by kernel_rfl) (by kernel_rfl) ?_
      refine condN (x := .tmp 10) (b := decide (a.tmod 13 < 0)) (by kernel_rfl) (by kernel_rfl) ?_
      rw [decide_eq_false hr]
      kernel_rfl
    · unfold rest
      rw [if_neg hr, e5, Env.get_set, if_pos rfl]
end Go.Proofs.Ytcilejikekccmaa.Am
