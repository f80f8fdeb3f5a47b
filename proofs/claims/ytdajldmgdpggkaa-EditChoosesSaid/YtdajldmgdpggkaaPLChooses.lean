/- EditChooses, plainly. -/
import Derived.Test.YtdajldmgdpggkaaP4D
import Derived.Test.YtdajldmgdpggkaaMLChooses0
namespace Go.Proofs.Ytdajldmgdpggkaa.M
open Go Am Sy
set_option linter.unusedVariables false
set_option linter.unusedSimpArgs false
theorem chooses_holds (F : Nat) (n : Int) (l : List api_Edit) (raw : Int) (hl : l.length ≤ 9223372036854775807) (hF : l.length + 3000 ≤ F) : correctorlaw4_EditChooses F n l raw = some true := by
  unfold correctorlaw4_EditChooses
  rw [known_eq F (by omega)]
  simp only [Option.bind_some, if_true]
  obtain ⟨w, hw, hw2⟩ := few_eq F l hl (by omega)
  rw [hw]
  simp only [Option.bind_some]
  cases w with
  | false => rfl
  | true =>
    have h3 := hw2 rfl
    obtain ⟨q1, q2⟩ := wi_range n 100 (by omega)
    rw [if_pos rfl, within_eq F _ _ (by omega) (by omega)]
    simp only [Option.bind_some]
    generalize wi n 100 = N at *
    have hg := goodL_len N l
    rw [good_eq F N l q1 (by omega) h3 (by omega)]
    simp only [Option.bind_some]
    rw [if_pos (by simp; omega), List.nil_append, choose_ref F N _ (by omega) (by omega)]
    obtain ⟨g1, g2, g3, g4⟩ := rchoose_eq F N (goodL N l) (by omega) (by omega)
    have hlen : ∀ (m : Int) (x : List api_Edit), x.length ≤ 1000 → (refL m [] x).length ≤ 200 := fun m x hx => by
      obtain ⟨_, _, _, g⟩ := rchoose_eq F m x hx (by omega)
      exact g.1
    simp only [Option.bind_some, g1]
    rw [same_eq F _ (by have := hlen N (goodL N l) (by omega); omega) (by omega)]
    simp only [Option.bind_some, if_true]
    rw [check_eq F N _ (by omega), kept_check g4 g2]
    simp only [Option.bind_some, if_true]
    rw [choose_ref F N l (by omega) (by omega), (rchoose_eq F N l (by omega) (by omega)).1]
    simp only [Option.bind_some]
    rw [same_eq F _ (by have := hlen N l (by omega); omega) (by omega)]
    simp only [Option.bind_some, if_true]
    rw [choose_ref F raw l (by omega) (by omega), (rchoose_eq F raw l (by omega) (by omega)).1]
    simp only [Option.bind_some]
    rw [same_eq F _ (by have := hlen raw l (by omega); omega) (by omega)]
    simp only [Option.bind_some, if_true]
    rw [choose_self F N _ g4 g2 (by omega)]
    simp only [Option.bind_some]
    rw [same_eq F _ (by have := hlen N (goodL N l) (by omega); omega) (by omega)]
    rfl
end Go.Proofs.Ytdajldmgdpggkaa.M
