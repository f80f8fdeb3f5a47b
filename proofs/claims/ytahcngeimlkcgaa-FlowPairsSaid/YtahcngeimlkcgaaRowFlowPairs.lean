/-
  In braces each item is a pair, with a value or without; in square brackets those with a colon; for every row of numbers. ('Rows.FlowPairsSaid')
  The frame began as the seat's shell of a proof (proof-skeleton), as of a law of numbers.
-/
import Derived.Test.YtahcngeimlkcgaaRows
import Derived.WalkKit
import Derived.ProofKit
import Derived.OpenShut
import Derived.ChangeMaps5
import Derived.Test.YtahcngeimlkcgaaRowKit
import Derived.Test.YtahcngeimlkcgaaRowKit3
import Derived.Test.YtahcngeimlkcgaaPLPairs2
namespace Go.Proofs.Ytahcngeimlkcgaa.flowPairs
open Go.Proofs.Ytahcngeimlkcgaa.Am
open Go.Proofs.Ytahcngeimlkcgaa
open Go.ChangeShapes Go.WideShapes Go.ChangeAt Go.RowKit
set_option linter.unusedVariables false
set_option linter.unnecessarySimpa false

theorem own : ownKnob Try.prog.godebug = none := by kernel_rfl
theorem kids : Kids Try.prog (· < Try.prog.types.size) := kids_rows (by kernel_rfl) (by kernel_rfl)
theorem full : ∀ t e, t < Try.prog.types.size → Try.prog.underlying t = some (.slice e) → 0 < Try.prog.cellsOf e := slices_full_of _ (by kernel_rfl)
theorem psz : ∀ t ∈ Try.f6.params.toList, t < Try.prog.types.size := by
  rw [Try.params6]
  exact of_decide_eq_true (by kernel_rfl)

/-! ### The row's step -/
set_option maxRecDepth 100000 in
theorem lifted (os : Os) (started : os.Started) (H : Type) (enc : TypeId × Value → H) :
    ReturnsInHanded {} Try.checked os 6 .any (Rows.flowPairsSpec.pre6 enc Try.prog Try.f6 Rows.flowPairsRow.domain false) (Rows.flowPairsSpec.post enc Try.prog Try.f6 false true false false) := by
  refine returnsInHanded_of_change (C := Try.checked) own started (by kernel_rfl) Try.func6
    (ChangeSpec.witness6 (enc := enc) (C := Try.checked) false ⟨#[], #[.slice none 0 0], []⟩ 8 (by kernel_rfl) (by kernel_rfl) (by kernel_rfl) (by kernel_rfl)) ?_
  intro W base args ds gs before hval0 hW hcnd _
  have hval : ∀ (j : Nat) t v, Try.f6.params[j]? = some t → args[j]? = some v → Value.okWide Try.prog W .any base t v := hval0
  have hW' := hW
  have hlt := fun p hp => hW'.lt p hp
  obtain ⟨p, q, hA0, hV, rfl, hfz, hnd⟩ := hW
  have hA : DataW.TrodAll enc Try.prog W 0 (fun _ => true) true Try.f6.params.toList args.toList ds p := hA0
  rw [Try.params6] at hA hval
  obtain ⟨v0, vs0, d0, ds0, p0, q0, hargs, rfl, rfl, h0, r0⟩ := trodAll_cons hA
  obtain ⟨rfl, rfl, rfl⟩ := trodAll_nil r0
  obtain rfl : args = #[v0] := by cases args; simp_all
  obtain ⟨rfl, rfl⟩ := trodVars_none hV
  letI : Marks := ⟨fun _ => 0⟩
  obtain ⟨ρ0, Z0, hh0, u0, x0, H0, rr0, zz0, e0, s0, g0⟩ := M.arg_slice (Sy.reads_slice Try.underlying40 (by kernel_rfl) (Sy.reads_int Try.underlying3)) Try.underlying40 (hval 0 40 v0 rfl rfl) h0 (Sy.hand_none W)
  obtain ⟨v, h', hc, _, rfl⟩ := M.correctorlaw11_FlowPairs_ok (3000) (H0).inv s0 (M.pairs_holds (3000) x0 rfl)
  refine (M.calls_hand M.prog_ok H0 hc (LR.cons e0 (LR.nil _))).mono fun e W' ⟨he, hg⟩ => ?_
  subst he
  exact ⟨_, rfl, post_grew (pv := []) hW' (fun _ _ _ => (trodAll_cons_mk (shut_bool Try.underlying4 _) trodAll_mk0)) (fun sp hsp => M.args_same kids full hg psz hA0 (fun x hx => hlt x (by simpa using hx)) (fun x hx => hsp x (by simpa using hx))) (fun _ _ => rfl) rfl
    hg (ok_one (by kernel_rfl) rfl (okWide_bool_mk Try.underlying4 _))⟩

theorem over : Rows.flowPairsRow.holds Try.pinned (OpenSpec.ofChange Rows.flowPairsSpec) :=
  OpenClaim.holds_of_wide 6 Try.f6 rfl rfl rfl rfl rfl rfl rfl ⟨rfl, rfl, rfl, rfl, rfl⟩ rfl rfl rfl rfl rfl (by kernel_rfl) Try.func6 (by kernel_rfl)
    (of_decide_eq_true (by kernel_rfl)) (by unfold Func.isWrapper; first | (rw [if_pos (by decide +kernel)]; kernel_rfl) | (rw [if_neg (by decide +kernel)]; exact ⟨rfl, rfl⟩))
    (fun os started H enc _ => lifted os started H enc)

theorem proved : Rows.FlowPairsSaid :=
  over
end Go.Proofs.Ytahcngeimlkcgaa.flowPairs
