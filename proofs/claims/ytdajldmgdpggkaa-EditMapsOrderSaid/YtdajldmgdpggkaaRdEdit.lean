/- What the laws are handed. -/
import Derived.Test.YtdajldmgdpggkaaSyG
import Derived.Test.YtdajldmgdpggkaaMA0
import Derived.KernelRfl
namespace Go.Proofs.Ytdajldmgdpggkaa.M
open Go Am Sy
open Sy.Cell (rc)
set_option linter.unusedVariables false
set_option linter.unusedSectionVars false
variable [Marks]
theorem split_api_Edit (cs : List Value) (hl : cs.length = 3) : cs = (cs.drop 0).take 1 ++ (cs.drop 1).take 1 ++ (cs.drop 2).take 1 := by
  match cs, hl with
  | [u0, u1, u2], _ => rfl
def good_api_Edit (x : api_Edit) : Prop := (Lit.int .i64 x.From).wf = true ∧ (Lit.int .i64 x.To).wf = true ∧ x.Put.b.length ≤ maxLen
theorem reads_api_Edit : Reads Try.prog 29 api_Edit good_api_Edit := by
  intro Hd enc w n cs x hx ρ Z h H
  obtain ⟨xs, n, rfl, rfl, hl, hn, hf⟩ := DataW.trod_struct Try.underlying29 hx
  have hl : cs.length = 3 := hl.trans (by kernel_rfl)
  obtain ⟨x0, e0⟩ : ∃ y, xs[0]? = some y := ⟨_, List.getElem?_eq_getElem (by rw [hn]; decide)⟩
  have f0 := (hf 0 _ rfl).trans e0
  obtain ⟨ρ0, Z0, h0, c0, y0, H0, r0, z0, l0, q0, g0⟩ := (reads_int Try.underlying3) _ _ _ _ _ _ f0 ρ Z h H
  obtain ⟨x1, e1⟩ : ∃ y, xs[1]? = some y := ⟨_, List.getElem?_eq_getElem (by rw [hn]; decide)⟩
  have f1 := (hf 1 _ rfl).trans e1
  obtain ⟨ρ1, Z1, h1, c1, y1, H1, r1, z1, l1, q1, g1⟩ := (reads_int Try.underlying3) _ _ _ _ _ _ f1 ρ0 Z0 h0 H0
  obtain ⟨x2, e2⟩ : ∃ y, xs[2]? = some y := ⟨_, List.getElem?_eq_getElem (by rw [hn]; decide)⟩
  have f2 := (hf 2 _ rfl).trans e2
  obtain ⟨ρ2, Z2, h2, c2, y2, H2, r2, z2, l2, q2, g2⟩ := (reads_string Try.underlying9) _ _ _ _ _ _ f2 ρ1 Z1 h1 H1
  have hcs : cs = (cs.drop 0).take 1 ++ (cs.drop 1).take 1 ++ (cs.drop 2).take 1 := split_api_Edit cs hl
  refine ⟨ρ2, Z2, h2, c0 ++ c1 ++ c2, ⟨y0, y1, y2⟩, H2, (r0.trans (r1.trans r2)), (z0.trans (z1.trans z2)), ?_, ?_, ?_⟩
  · rw [hcs]
    exact (LR.append (LR.append (l0.mono (r1.trans r2)) (l1.mono r2)) l2)
  · show _ = _
    rw [show c0 = _ from q0, show c1 = _ from q1, show c2 = _ from q2]; rfl
  · exact ⟨g0, g1, g2⟩
end Go.Proofs.Ytdajldmgdpggkaa.M
