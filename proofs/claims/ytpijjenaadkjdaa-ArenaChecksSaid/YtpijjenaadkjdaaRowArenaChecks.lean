/-
  Whether any nodes lie as they must is told as the document says, of a tree with one thing turned, too; for all numbers, rows of acts and rows of nodes. ('Rows.ArenaChecksSaid')
  The frame began as the seat's shell of a proof (proof-skeleton), as of a law of numbers.
-/
import Derived.Test.YtpijjenaadkjdaaRows
import Derived.WalkKit
import Derived.ProofKit
import Derived.OpenShut
import Derived.ChangeMaps5
import Derived.Test.YtpijjenaadkjdaaRowKit
import Derived.Test.YtpijjenaadkjdaaRowKit3
import Derived.Test.YtpijjenaadkjdaaRdChecks
import Derived.Test.YtpijjenaadkjdaaPLChk
namespace Go.Proofs.Ytpijjenaadkjdaa.arenaChecks
open Go.Proofs.Ytpijjenaadkjdaa.Am
open Go.Proofs.Ytpijjenaadkjdaa
open Go.ChangeShapes Go.WideShapes Go.ChangeAt Go.RowKit
set_option linter.unusedVariables false
set_option linter.unnecessarySimpa false

theorem own : ownKnob Try.prog.godebug = none := by kernel_rfl
theorem kids : Kids Try.prog (· < Try.prog.types.size) := kids_rows (by kernel_rfl) (by kernel_rfl)
theorem full : ∀ t e, t < Try.prog.types.size → Try.prog.underlying t = some (.slice e) → 0 < Try.prog.cellsOf e := slices_full_of _ (by kernel_rfl)
theorem psz : ∀ t ∈ Try.f6.params.toList, t < Try.prog.types.size := by
  rw [Try.params6]
  exact of_decide_eq_true (by kernel_rfl)

/-! ### The row's step -/
set_option maxRecDepth 100000 in
theorem lifted (os : Os) (started : os.Started) (H : Type) (enc : TypeId × Value → H) :
    ReturnsInHanded {} Try.checked os 6 .any (Rows.arenaChecksSpec.pre6 enc Try.prog Try.f6 Rows.arenaChecksRow.domain false) (Rows.arenaChecksSpec.post enc Try.prog Try.f6 false true false false) := by
  refine returnsInHanded_of_change (C := Try.checked) own started (by kernel_rfl) Try.func6
    (ChangeSpec.witness6 (enc := enc) (C := Try.checked) false ⟨#[], #[.int .i64 0, .slice none 0 0, .slice none 0 0, .int .i64 0, .int .i64 0, .int .i64 0], []⟩ 8 (by kernel_rfl) (by kernel_rfl) (by kernel_rfl) (by kernel_rfl)) ?_
  intro W base args ds gs before hval0 hW hcnd _
  have hval : ∀ (j : Nat) t v, Try.f6.params[j]? = some t → args[j]? = some v → Value.okWide Try.prog W .any base t v := hval0
  have hW' := hW
  have hlt := fun p hp => hW'.lt p hp
  obtain ⟨p, q, hA0, hV, rfl, hfz, hnd⟩ := hW
  have hA : DataW.TrodAll enc Try.prog W 0 (fun _ => true) true Try.f6.params.toList args.toList ds p := hA0
  rw [Try.params6] at hA hval
  obtain ⟨v0, vs0, d0, ds0, p0, q0, hargs, rfl, rfl, h0, r0⟩ := trodAll_cons hA
  obtain ⟨v1, vs1, d1, ds1, p1, q1, rfl, rfl, rfl, h1, r1⟩ := trodAll_cons r0
  obtain ⟨v2, vs2, d2, ds2, p2, q2, rfl, rfl, rfl, h2, r2⟩ := trodAll_cons r1
  obtain ⟨v3, vs3, d3, ds3, p3, q3, rfl, rfl, rfl, h3, r3⟩ := trodAll_cons r2
  obtain ⟨v4, vs4, d4, ds4, p4, q4, rfl, rfl, rfl, h4, r4⟩ := trodAll_cons r3
  obtain ⟨v5, vs5, d5, ds5, p5, q5, rfl, rfl, rfl, h5, r5⟩ := trodAll_cons r4
  obtain ⟨rfl, rfl, rfl⟩ := trodAll_nil r5
  obtain rfl : args = #[v0, v1, v2, v3, v4, v5] := by cases args; simp_all
  obtain ⟨rfl, rfl⟩ := trodVars_none hV
  obtain ⟨x0, rfl, rfl, rfl, w0⟩ := open_int Try.underlying3 (hval 0 3 v0 rfl rfl) h0
  obtain ⟨x3, rfl, rfl, rfl, w3⟩ := open_int Try.underlying3 (hval 3 3 v3 rfl rfl) h3
  obtain ⟨x4, rfl, rfl, rfl, w4⟩ := open_int Try.underlying3 (hval 4 3 v4 rfl rfl) h4
  obtain ⟨x5, rfl, rfl, rfl, w5⟩ := open_int Try.underlying3 (hval 5 3 v5 rfl rfl) h5
  letI : Marks := ⟨fun _ => 0⟩
  obtain ⟨ρ1, Z1, hh1, u1, x1, H1, rr1, zz1, e1, s1, g1⟩ := M.arg_slice (Sy.reads_slice Try.underlying22 (by kernel_rfl) M.reads_correctorlaw10_Act) Try.underlying22 (hval 1 22 v1 rfl rfl) h1 (Sy.hand_none W)
  obtain ⟨ρ2, Z2, hh2, u2, x2, H2, rr2, zz2, e2, s2, g2⟩ := M.arg_slice (Sy.reads_slice Try.underlying25 (by kernel_rfl) M.reads_api_Node) Try.underlying25 (hval 2 25 v2 rfl rfl) h2 H1
  replace e1 := e1.mono rr2
  replace s1 := s1.mono zz2
  obtain ⟨v, h', hc, _, rfl⟩ := M.correctorlaw10_ArenaChecks_ok (x2.length + 2000) (H2).inv s1 s2 (M.checks_holds (x2.length + 2000) x0 x1 x2 x3 x4 x5 (Nat.le_trans g1.2 (by decide)) (Nat.le_trans g2.2 (by decide)) (Nat.le_refl _))
  refine (M.calls_hand M.prog_ok H2 hc (LR.cons (.int _ _) (LR.cons e1 (LR.cons e2 (LR.cons (.int _ _) (LR.cons (.int _ _) (LR.cons (.int _ _) (LR.nil _)))))))).mono fun e W' ⟨he, hg⟩ => ?_
  subst he
  exact ⟨_, rfl, post_grew (pv := []) hW' (fun _ _ _ => (trodAll_cons_mk (shut_bool Try.underlying4 _) trodAll_mk0)) (fun sp hsp => M.args_same kids full hg psz hA0 (fun x hx => hlt x (by simpa using hx)) (fun x hx => hsp x (by simpa using hx))) (fun _ _ => rfl) rfl
    hg (ok_one (by kernel_rfl) rfl (okWide_bool_mk Try.underlying4 _))⟩

theorem over : Rows.arenaChecksRow.holds Try.pinned (OpenSpec.ofChange Rows.arenaChecksSpec) :=
  OpenClaim.holds_of_wide 6 Try.f6 rfl rfl rfl rfl rfl rfl rfl ⟨rfl, rfl, rfl, rfl, rfl⟩ rfl rfl rfl rfl rfl (by kernel_rfl) Try.func6 (by kernel_rfl)
    (of_decide_eq_true (by kernel_rfl)) (by unfold Func.isWrapper; first | (rw [if_pos (by decide +kernel)]; kernel_rfl) | (rw [if_neg (by decide +kernel)]; exact ⟨rfl, rfl⟩))
    (fun os started H enc _ => lifted os started H enc)

theorem proved : Rows.ArenaChecksSaid :=
  over
end Go.Proofs.Ytpijjenaadkjdaa.arenaChecks
