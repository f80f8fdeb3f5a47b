/- What the laws are handed. -/
import Derived.Test.YtpijjenaadkjdaaSyG
import Derived.Test.YtpijjenaadkjdaaMK1
import Derived.KernelRfl
namespace Go.Proofs.Ytpijjenaadkjdaa.M
open Go Am Sy
open Sy.Cell (rc)
set_option linter.unusedVariables false
set_option linter.unusedSectionVars false
variable [Marks]
theorem split_correctorlaw10_Act (cs : List Value) (hl : cs.length = 5) : cs = (cs.drop 0).take 1 ++ (cs.drop 1).take 1 ++ (cs.drop 2).take 1 ++ (cs.drop 3).take 1 ++ (cs.drop 4).take 1 := by
  match cs, hl with
  | [u0, u1, u2, u3, u4], _ => rfl
def good_correctorlaw10_Act (x : correctorlaw10_Act) : Prop := (Lit.int .i64 x.Kind).wf = true ∧ (Lit.int .i64 x.A).wf = true ∧ (Lit.int .i64 x.B).wf = true ∧ (Lit.int .i64 x.C).wf = true ∧ (Lit.int .i64 x.D).wf = true
theorem reads_correctorlaw10_Act : Reads Try.prog 32 correctorlaw10_Act good_correctorlaw10_Act := by
  intro Hd enc w n cs x hx ρ Z h H
  obtain ⟨xs, n, rfl, rfl, hl, hn, hf⟩ := DataW.trod_struct Try.underlying32 hx
  have hl : cs.length = 5 := hl.trans (by kernel_rfl)
  obtain ⟨x0, e0⟩ : ∃ y, xs[0]? = some y := ⟨_, List.getElem?_eq_getElem (by rw [hn]; decide)⟩
  have f0 := (hf 0 _ rfl).trans e0
  obtain ⟨ρ0, Z0, h0, c0, y0, H0, r0, z0, l0, q0, g0⟩ := (reads_int Try.underlying3) _ _ _ _ _ _ f0 ρ Z h H
  obtain ⟨x1, e1⟩ : ∃ y, xs[1]? = some y := ⟨_, List.getElem?_eq_getElem (by rw [hn]; decide)⟩
  have f1 := (hf 1 _ rfl).trans e1
  obtain ⟨ρ1, Z1, h1, c1, y1, H1, r1, z1, l1, q1, g1⟩ := (reads_int Try.underlying3) _ _ _ _ _ _ f1 ρ0 Z0 h0 H0
  obtain ⟨x2, e2⟩ : ∃ y, xs[2]? = some y := ⟨_, List.getElem?_eq_getElem (by rw [hn]; decide)⟩
  have f2 := (hf 2 _ rfl).trans e2
  obtain ⟨ρ2, Z2, h2, c2, y2, H2, r2, z2, l2, q2, g2⟩ := (reads_int Try.underlying3) _ _ _ _ _ _ f2 ρ1 Z1 h1 H1
  obtain ⟨x3, e3⟩ : ∃ y, xs[3]? = some y := ⟨_, List.getElem?_eq_getElem (by rw [hn]; decide)⟩
  have f3 := (hf 3 _ rfl).trans e3
  obtain ⟨ρ3, Z3, h3, c3, y3, H3, r3, z3, l3, q3, g3⟩ := (reads_int Try.underlying3) _ _ _ _ _ _ f3 ρ2 Z2 h2 H2
  obtain ⟨x4, e4⟩ : ∃ y, xs[4]? = some y := ⟨_, List.getElem?_eq_getElem (by rw [hn]; decide)⟩
  have f4 := (hf 4 _ rfl).trans e4
  obtain ⟨ρ4, Z4, h4, c4, y4, H4, r4, z4, l4, q4, g4⟩ := (reads_int Try.underlying3) _ _ _ _ _ _ f4 ρ3 Z3 h3 H3
  have hcs : cs = (cs.drop 0).take 1 ++ (cs.drop 1).take 1 ++ (cs.drop 2).take 1 ++ (cs.drop 3).take 1 ++ (cs.drop 4).take 1 := split_correctorlaw10_Act cs hl
  refine ⟨ρ4, Z4, h4, c0 ++ c1 ++ c2 ++ c3 ++ c4, ⟨y0, y1, y2, y3, y4⟩, H4, (r0.trans (r1.trans (r2.trans (r3.trans r4)))), (z0.trans (z1.trans (z2.trans (z3.trans z4)))), ?_, ?_, ?_⟩
  · rw [hcs]
    exact (LR.append (LR.append (LR.append (LR.append (l0.mono (r1.trans (r2.trans (r3.trans r4)))) (l1.mono (r2.trans (r3.trans r4)))) (l2.mono (r3.trans r4))) (l3.mono r4)) l4)
  · show _ = _
    rw [show c0 = _ from q0, show c1 = _ from q1, show c2 = _ from q2, show c3 = _ from q3, show c4 = _ from q4]; rfl
  · exact ⟨g0, g1, g2, g3, g4⟩
theorem split_api_Node (cs : List Value) (hl : cs.length = 6) : cs = (cs.drop 0).take 1 ++ (cs.drop 1).take 1 ++ (cs.drop 2).take 1 ++ (cs.drop 3).take 1 ++ (cs.drop 4).take 1 ++ (cs.drop 5).take 1 := by
  match cs, hl with
  | [u0, u1, u2, u3, u4, u5], _ => rfl
def good_api_Node (x : api_Node) : Prop := (Lit.int .i64 x.Kind).wf = true ∧ (Lit.int .i64 x.From).wf = true ∧ (Lit.int .i64 x.To).wf = true ∧ (Lit.int .i64 x.Up).wf = true ∧ ((fun xs : List Int => (∀ y ∈ xs, (Lit.int .i64 y).wf = true) ∧ xs.length ≤ maxLen) x.Kids)
theorem reads_api_Node : Reads Try.prog 46 api_Node good_api_Node := by
  intro Hd enc w n cs x hx ρ Z h H
  obtain ⟨xs, n, rfl, rfl, hl, hn, hf⟩ := DataW.trod_struct Try.underlying46 hx
  have hl : cs.length = 6 := hl.trans (by kernel_rfl)
  obtain ⟨x0, e0⟩ : ∃ y, xs[0]? = some y := ⟨_, List.getElem?_eq_getElem (by rw [hn]; decide)⟩
  have f0 := (hf 0 _ rfl).trans e0
  obtain ⟨ρ0, Z0, h0, c0, y0, H0, r0, z0, l0, q0, g0⟩ := (reads_int Try.underlying3) _ _ _ _ _ _ f0 ρ Z h H
  obtain ⟨x1, e1⟩ : ∃ y, xs[1]? = some y := ⟨_, List.getElem?_eq_getElem (by rw [hn]; decide)⟩
  have f1 := (hf 1 _ rfl).trans e1
  obtain ⟨ρ1, Z1, h1, c1, y1, H1, r1, z1, l1, q1, g1⟩ := (reads_int Try.underlying3) _ _ _ _ _ _ f1 ρ0 Z0 h0 H0
  obtain ⟨x2, e2⟩ : ∃ y, xs[2]? = some y := ⟨_, List.getElem?_eq_getElem (by rw [hn]; decide)⟩
  have f2 := (hf 2 _ rfl).trans e2
  obtain ⟨ρ2, Z2, h2, c2, y2, H2, r2, z2, l2, q2, g2⟩ := (reads_int Try.underlying3) _ _ _ _ _ _ f2 ρ1 Z1 h1 H1
  obtain ⟨x3, e3⟩ : ∃ y, xs[3]? = some y := ⟨_, List.getElem?_eq_getElem (by rw [hn]; decide)⟩
  have f3 := (hf 3 _ rfl).trans e3
  obtain ⟨ρ3, Z3, h3, c3, y3, H3, r3, z3, l3, q3, g3⟩ := (reads_int Try.underlying3) _ _ _ _ _ _ f3 ρ2 Z2 h2 H2
  obtain ⟨x4, e4⟩ : ∃ y, xs[4]? = some y := ⟨_, List.getElem?_eq_getElem (by rw [hn]; decide)⟩
  have f4 := (hf 4 _ rfl).trans e4
  obtain ⟨ρ4, Z4, h4, c4, y4, H4, r4, z4, l4, q4, g4⟩ := (reads_slice Try.underlying44 (by kernel_rfl) (reads_int Try.underlying3)) _ _ _ _ _ _ f4 ρ3 Z3 h3 H3
  obtain ⟨x5, e5⟩ : ∃ y, xs[5]? = some y := ⟨_, List.getElem?_eq_getElem (by rw [hn]; decide)⟩
  have f5 := (hf 5 _ rfl).trans e5
  obtain ⟨ρ5, Z5, h5, c5, y5, H5, r5, z5, l5, q5, g5⟩ := (reads_bool Try.underlying4) _ _ _ _ _ _ f5 ρ4 Z4 h4 H4
  have hcs : cs = (cs.drop 0).take 1 ++ (cs.drop 1).take 1 ++ (cs.drop 2).take 1 ++ (cs.drop 3).take 1 ++ (cs.drop 4).take 1 ++ (cs.drop 5).take 1 := split_api_Node cs hl
  refine ⟨ρ5, Z5, h5, c0 ++ c1 ++ c2 ++ c3 ++ c4 ++ c5, ⟨y0, y1, y2, y3, y4, y5⟩, H5, (r0.trans (r1.trans (r2.trans (r3.trans (r4.trans r5))))), (z0.trans (z1.trans (z2.trans (z3.trans (z4.trans z5))))), ?_, ?_, ?_⟩
  · rw [hcs]
    exact (LR.append (LR.append (LR.append (LR.append (LR.append (l0.mono (r1.trans (r2.trans (r3.trans (r4.trans r5))))) (l1.mono (r2.trans (r3.trans (r4.trans r5))))) (l2.mono (r3.trans (r4.trans r5)))) (l3.mono (r4.trans r5))) (l4.mono r5)) l5)
  · obtain ⟨v4, s4, q4⟩ := q4; exact ⟨v4, (RS.mono z5 s4), by rw [show c0 = _ from q0, show c1 = _ from q1, show c2 = _ from q2, show c3 = _ from q3, show c4 = _ from q4, show c5 = _ from q5]; rfl⟩
  · exact ⟨g0, g1, g2, g3, g4⟩
end Go.Proofs.Ytpijjenaadkjdaa.M
