/- EditChecks, plainly. -/
import Derived.Test.YtdajldmgdpggkaaP4D
import Derived.Test.YtdajldmgdpggkaaMLChecks0
namespace Go.Proofs.Ytdajldmgdpggkaa.M
open Go Am Sy
set_option linter.unusedVariables false
set_option linter.unusedSimpArgs false
theorem checks_l0 (F : Nat) (b : List UInt8) (a1 : List api_Edit) (a2 : Int) (x y z : List api_Edit) (hb : b.length ≤ 100) (hF : 3000 ≤ F) : correctorlaw4_EditChecks_l0 F b a1 a2 F [x, y, z] 0 = some (.inl ()) := by
  obtain ⟨G, hG⟩ : ∃ G, F = G + 4 := ⟨F - 4, by omega⟩
  have step : ∀ (m : Nat) (i : Int) (e : List api_Edit), i < 3 → 0 ≤ i → [x, y, z][i.toNat]? = some e → correctorlaw4_EditChecks_l0 F b a1 a2 (m + 1) [x, y, z] i = correctorlaw4_EditChecks_l0 F b a1 a2 m [x, y, z] (w64 (i + 1)) := by
    intro m i e h1 h2 h3
    rw [correctorlaw4_EditChecks_l0, if_pos h1, if_pos (by simp; omega)]
    have hi : 0 ≤ i ∧ i < ([x, y, z].length : Int) := ⟨h2, h1⟩
    simp only [if_pos hi, h3, Option.bind_some, List.nil_append, apply_eq F b e (by omega) (by omega), rapply_eq F b e (by omega) (by omega), check_eq F _ e (by omega), rcheck_eq F _ e (by omega), if_true]
  have hs : ∀ f : Nat, f = G + 4 → correctorlaw4_EditChecks_l0 F b a1 a2 f [x, y, z] 0 = some (.inl ()) := by
    intro f hf
    subst hf
    rw [step (G + 3) 0 x (by decide) (by decide) rfl, show w64 (0 + 1) = 1 by decide, step (G + 2) 1 y (by decide) (by decide) rfl, show w64 (1 + 1) = 2 by decide, step (G + 1) 2 z (by decide) (by decide) rfl, show w64 (2 + 1) = 3 by decide]
    rw [correctorlaw4_EditChecks_l0, if_neg (by decide)]
  exact hs F hG
theorem checks_holds (F : Nat) (b : List UInt8) (l : List api_Edit) (n : Int) (hl : l.length ≤ 9223372036854775807) (hF : l.length + 3000 ≤ F) : correctorlaw4_EditChecks F b l n = some true := by
  unfold correctorlaw4_EditChecks
  rw [known_eq F (by omega)]
  simp only [Option.bind_some, if_true]
  by_cases h : (100 : Int) < b.length
  · rw [if_pos h]
  · rw [if_neg h]
    obtain ⟨w, hw, hw2⟩ := few_eq F l hl (by omega)
    rw [hw]
    simp only [Option.bind_some]
    cases w with
    | false => rfl
    | true =>
      have h3 := hw2 rfl
      obtain ⟨es, g1, g2, _⟩ := good_ref F b.length l (by omega) (by omega) h3 (by omega)
      rw [if_pos rfl, g1]
      simp only [Option.bind_some]
      rw [g2]
      simp only [Option.bind_some]
      rw [checks_l0 F b l n _ _ _ (by omega) (by omega)]
      simp only [Option.bind_some]
      rw [check_eq F n l (by omega), rcheck_eq F n l (by omega)]
      simp only [Option.bind_some, if_true]
end Go.Proofs.Ytdajldmgdpggkaa.M
