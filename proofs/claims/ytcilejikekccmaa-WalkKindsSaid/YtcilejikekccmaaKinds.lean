/-
  WalkKinds: for every input the law answers true, and the input reads as it did. ('Rows.WalkKindsSaid')
  The frame around 'walk' began as the seat's shell of a proof (proof-skeleton).
-/
import Derived.Test.YtcilejikekccmaaRows
import Derived.WalkKit
import Derived.ProofKit
import Derived.OpenShut
import Derived.Test.YtcilejikekccmaaKindsWithin
import Derived.Test.YtcilejikekccmaaKindsRun0
import Derived.Test.YtcilejikekccmaaKindsRun1
import Derived.Test.YtcilejikekccmaaKindsRun2
import Derived.Test.YtcilejikekccmaaKindsRun3
import Derived.Test.YtcilejikekccmaaKindsRun4
import Derived.Test.YtcilejikekccmaaKindsRun5
import Derived.Test.YtcilejikekccmaaKindsRun6
import Derived.Test.YtcilejikekccmaaKindsRun7
import Derived.Test.YtcilejikekccmaaKindsRun8
import Derived.Test.YtcilejikekccmaaKindsRun9
import Derived.Test.YtcilejikekccmaaKindsRun10
import Derived.Test.YtcilejikekccmaaKindsRun11
import Derived.Test.YtcilejikekccmaaKindsRun12
namespace Go.Proofs.Ytcilejikekccmaa.walkKinds
open Go.ChangeShapes Go.WideShapes Go.ChangeAt Go.RowKit Go.Proofs.Ytcilejikekccmaa.Am
set_option linter.unusedVariables false

theorem own : ownKnob Try.prog.godebug = none := by kernel_rfl

/-! ### The walk -/
theorem rest_lt (a : Int) : 0 ≤ rest a ∧ rest a < 13 := by
  unfold rest
  have h1 := Int.tmod_lt_of_pos a (show (0 : Int) < 13 by decide)
  have h2 : -13 < a.tmod 13 := by
    have := Int.lt_tmod_of_pos a (show (0 : Int) < 13 by decide)
    omega
  split <;> omega
theorem walk (a0 : Int) (w0 : (Lit.int .i64 a0).wf = true) (w : World) :
    Calls Try.prog 3 #[.int .i64 a0] w fun e w' => e = .returned (.bool true) ∧ Grew w w' := by
  letI : Marks := ⟨fun _ => a0⟩
  have hknown : Known Try.prog 7 [] (.bool true) := by
    have hr := known_run
    cases hc : aCall Try.prog noOv 300 7 [] .none with
    | none => rw [hc] at hr; cases hr
    | some r =>
      obtain ⟨v, h'⟩ := r
      rw [hc] at hr
      simp at hr
      subst hr
      exact known_of_run prog_ok noOv_good.1 (noOv_good (P := Try.prog)).2 hc rfl rfl
  have hwithin : ∀ k n, Known Try.prog 9 [.float k n, .int .i64 13] (.int .i64 (rest a0)) := by
    intro fk fn
    have h1 := known_of_run prog_ok noOv_good.1 (noOv_good (P := Try.prog)).2 (within_run a0 .none) rfl rfl
    refine ⟨h1.1, fun ρ w args' blk next hl hs => h1.2 ρ w args' blk next ⟨hl.1, fun i u u' q1 q2 => ?_⟩ hs⟩
    match i with
    | 0 =>
      simp at q1; subst q1
      have := hl.2 0 (.float fk fn) u' (by simp) q2
      cases this
      exact .int _ _
    | 1 => exact hl.2 1 u u' (by simpa using q1) q2
    | i + 2 => simp at q1
  have hov := known_good (P := Try.prog) (ov := ovK (rest a0)) fun f args h v h' hh => by
    unfold ovK at hh
    split at hh
    · simp at hh; obtain ⟨rfl, rfl⟩ := hh; exact ⟨rfl, hknown⟩
    · simp at hh; obtain ⟨rfl, rfl⟩ := hh; exact ⟨rfl, hwithin _ _⟩
    · cases hh
  have hrun : (aCall Try.prog (ovK (rest a0)) 300 3 [.float .f64 0] .none).map (·.1) = some (.bool true) := by
    obtain ⟨h1, h2⟩ := rest_lt a0
    have : rest a0 = 0 ∨ rest a0 = 1 ∨ rest a0 = 2 ∨ rest a0 = 3 ∨ rest a0 = 4 ∨ rest a0 = 5 ∨ rest a0 = 6 ∨ rest a0 = 7 ∨ rest a0 = 8 ∨ rest a0 = 9 ∨ rest a0 = 10 ∨ rest a0 = 11 ∨ rest a0 = 12 := by omega
    rcases this with h | h | h | h | h | h | h | h | h | h | h | h | h <;> rw [h]
    · exact kinds_run0
    · exact kinds_run1
    · exact kinds_run2
    · exact kinds_run3
    · exact kinds_run4
    · exact kinds_run5
    · exact kinds_run6
    · exact kinds_run7
    · exact kinds_run8
    · exact kinds_run9
    · exact kinds_run10
    · exact kinds_run11
    · exact kinds_run12
  cases hc : aCall Try.prog (ovK (rest a0)) 300 3 [.float .f64 0] .none with
  | none => rw [hc] at hrun; cases hrun
  | some r =>
    obtain ⟨v, h'⟩ := r
    rw [hc] at hrun
    simp at hrun
    subst hrun
    refine (calls_of_run (args' := [.int .i64 a0]) prog_ok hov.1 hov.2 hc (LR.cons (.float _ _) (LR.nil _)) rfl w).mono fun e w' hq => ?_
    obtain ⟨v', h1, h2, h3⟩ := hq
    cases h2
    exact ⟨h1, h3⟩

/-! ### The row's step -/
set_option maxRecDepth 100000 in
theorem lifted (os : Os) (started : os.Started) (H : Type) (enc : TypeId × Value → H) :
    ReturnsInHanded {} Try.checked os 3 .any (Rows.walkKindsSpec.pre6 enc Try.prog Try.f3 Rows.walkKindsRow.domain false) (Rows.walkKindsSpec.post enc Try.prog Try.f3 false true false false) := by
  refine returnsInHanded_of_change (C := Try.checked) own started (by kernel_rfl) Try.func3
    (ChangeSpec.witness6 (enc := enc) (C := Try.checked) false ⟨#[], #[.int .i64 0], []⟩ 8 (by kernel_rfl) (by kernel_rfl) (by kernel_rfl) (by kernel_rfl)) ?_
  intro W base args ds gs before hval0 hW hcnd _
  have hval : ∀ (j : Nat) t v, Try.f3.params[j]? = some t → args[j]? = some v → Value.okWide Try.prog W .any base t v := hval0
  have hW' := hW
  obtain ⟨p, q, hA0, hV, rfl, hfz, hnd⟩ := hW
  have hA : DataW.TrodAll enc Try.prog W 0 (fun _ => true) true Try.f3.params.toList args.toList ds p := hA0
  rw [Try.params3] at hA hval
  obtain ⟨v0, vs0, d0, ds0, p0, q0, hargs, rfl, rfl, h0, r0⟩ := trodAll_cons hA
  obtain ⟨rfl, rfl, rfl⟩ := trodAll_nil r0
  obtain rfl : args = #[v0] := by cases args; simp_all
  obtain ⟨rfl, rfl⟩ := trodVars_none hV
  obtain ⟨a0, rfl, rfl, rfl, w0⟩ := open_int Try.underlying3 (hval 0 3 v0 rfl rfl) h0
  clear hA0 hval0
  simp only [List.append_nil] at hW'
  refine (walk a0 w0 W).mono fun e W' ⟨he, hg⟩ => ?_
  subst he
  exact ⟨_, rfl, post_grew (pa := []) (pv := []) hW' (fun _ _ _ => (trodAll_cons_mk (shut_bool Try.underlying4 _) trodAll_mk0)) (fun sp _ => (trodAll_cons_mk (shut_int Try.underlying3 w0) trodAll_mk0)) (fun _ _ => rfl) rfl
    hg (ok_one (by kernel_rfl) rfl (okWide_bool_mk Try.underlying4 _))⟩

theorem over : Rows.walkKindsRow.holds Try.pinned (OpenSpec.ofChange Rows.walkKindsSpec) :=
  OpenClaim.holds_of_wide 3 Try.f3 rfl rfl rfl rfl rfl rfl rfl ⟨rfl, rfl, rfl, rfl, rfl⟩ rfl rfl rfl rfl rfl (by kernel_rfl) Try.func3 (by kernel_rfl)
    (of_decide_eq_true (by kernel_rfl)) (by unfold Func.isWrapper; first | (rw [if_pos (by decide +kernel)]; kernel_rfl) | (rw [if_neg (by decide +kernel)]; exact ⟨rfl, rfl⟩))
    (fun os started H enc _ => lifted os started H enc)

theorem proved : Rows.WalkKindsSaid :=
  over
end Go.Proofs.Ytcilejikekccmaa.walkKinds
