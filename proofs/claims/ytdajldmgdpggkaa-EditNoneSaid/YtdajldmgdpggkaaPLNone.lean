/- EditNone, plainly. -/
import Derived.Test.YtdajldmgdpggkaaP4D
import Derived.Test.YtdajldmgdpggkaaMLNone0
namespace Go.Proofs.Ytdajldmgdpggkaa.M
open Go Am Sy
set_option linter.unusedVariables false
set_option linter.unusedSimpArgs false
theorem none_holds (F : Nat) (b : List UInt8) (f t : Int) (hF : 3000 ≤ F) : correctorlaw4_EditNone F b f t = some true := by
  unfold correctorlaw4_EditNone
  rw [known_eq F (by omega)]
  simp only [Option.bind_some, if_true]
  by_cases h : (100 : Int) < b.length
  · rw [if_pos h]
  · rw [if_neg h]
    have e1 : w64 ((b.length : Int) + 1) = (b.length : Int) + 1 := w64_eq (by omega) (by omega)
    obtain ⟨q1, q2⟩ := wi_range f ((b.length : Int) + 1) (by omega)
    rw [e1, within_eq F _ _ (by omega) (by omega)]
    simp only [Option.bind_some]
    generalize wi f ((b.length : Int) + 1) = fr at *
    have e2 : w64 ((b.length : Int) - fr) = (b.length : Int) - fr := w64_eq (by omega) (by omega)
    have e3 : w64 ((b.length : Int) - fr + 1) = (b.length : Int) - fr + 1 := w64_eq (by omega) (by omega)
    obtain ⟨q3, q4⟩ := wi_range t ((b.length : Int) - fr + 1) (by omega)
    rw [e2, e3, within_eq F _ _ (by omega) (by omega)]
    simp only [Option.bind_some]
    generalize wi t ((b.length : Int) - fr + 1) = d at *
    have e4 : w64 (fr + d) = fr + d := w64_eq (by omega) (by omega)
    simp only [e4]
    have h0 : edit_Apply F b [] = some (b, 0) := by
      rw [apply_done F b [] (by omega) (by simp) trivial (by simp) (by omega)]
      simp [doneL, outL, lastTo]
    have hl : ((b.take (fr + d).toNat).drop fr.toNat).length = d.toNat := by simp; omega
    have h1 : edit_Apply F b [(⟨fr, fr + d, (⟨(b.take (fr + d).toNat).drop fr.toNat⟩ : Str)⟩ : api_Edit)] = some (b, 0) := by
      have hd : doneL b [(⟨fr, fr + d, (⟨(b.take (fr + d).toNat).drop fr.toNat⟩ : Str)⟩ : api_Edit)] = b := by
        simp only [doneL, outL, lastTo]
        have z : (0 : Int).toNat = 0 := rfl
        rw [z, List.drop_zero, List.append_nil]
        have : b.take fr.toNat ++ (b.take (fr + d).toNat).drop fr.toNat = b.take (fr + d).toNat := by
          have := List.take_append_drop fr.toNat (b.take (fr + d).toNat)
          rw [List.take_take, Nat.min_eq_left (by omega)] at this
          exact this
        rw [this, List.take_append_drop]
      have hc : checkV b.length [(⟨fr, fr + d, (⟨(b.take (fr + d).toNat).drop fr.toNat⟩ : Str)⟩ : api_Edit)] = 0 := checkV_fine.2 ⟨by simp, by omega, by simp only; omega, by simp only; omega, by simp only; omega, trivial⟩
      rw [apply_eq F b _ (by omega) (by omega)]
      unfold applyV
      rw [if_pos hc, hd, if_neg (by omega)]
    rw [h0]
    simp only [Option.bind_some]
    rw [if_pos ⟨q1, by omega, by omega⟩, h1]
    simp only [Option.bind_some, if_true]
    rw [map_eq F [] _ (by omega) (by omega) (by simp) (fun e he => by cases he) (by omega)]
    simp only [Option.bind_some, mapV, Int.add_zero, if_true]
end Go.Proofs.Ytdajldmgdpggkaa.M
