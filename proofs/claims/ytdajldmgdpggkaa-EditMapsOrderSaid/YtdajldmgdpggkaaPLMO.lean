/- EditMapsOrder, plainly. -/
import Derived.Test.YtdajldmgdpggkaaP4D
import Derived.Test.YtdajldmgdpggkaaMLMO0
namespace Go.Proofs.Ytdajldmgdpggkaa.M
open Go Am Sy
set_option linter.unusedVariables false
set_option linter.unusedSimpArgs false
theorem mo_l0 (F : Nat) (b : List UInt8) (l es : List api_Edit) (out : List UInt8) (er : Int) (hb : b.length ≤ 60) (hl : es.length ≤ 30) (hf : Fine b.length 0 es) (hF : 2000 < F) : ∀ (d i m : Nat) (last : Int), i + d = b.length + 1 → d < m → last ≤ mapV i 0 es →
    correctorlaw4_EditMapsOrder_l0 F b l m es out er last (i : Int) = some (.inl (es, out, er)) := by
  intro d
  induction d with
  | zero =>
    intro i m last h1 h2 h3
    obtain ⟨m, rfl⟩ : ∃ k, m = k + 1 := ⟨m - 1, by omega⟩
    rw [correctorlaw4_EditMapsOrder_l0, if_neg (by omega)]
  | succ d ih =>
    intro i m last h1 h2 h3
    obtain ⟨m, rfl⟩ : ∃ k, m = k + 1 := ⟨m - 1, by omega⟩
    rw [correctorlaw4_EditMapsOrder_l0, if_pos (by omega), map_eq F es i (by omega) (by omega) (by omega) (fine_tame (by omega) es 0 (Int.le_refl _) hf) (by omega)]
    simp only [Option.bind_some]
    rw [if_neg (by omega)]
    have e1 : w64 ((i : Int) + 1) = ((i + 1 : Nat) : Int) := by rw [w64_eq (by omega) (by omega)]; omega
    rw [e1]
    cases d with
    | zero =>
      obtain ⟨m, rfl⟩ : ∃ k, m = k + 1 := ⟨m - 1, by omega⟩
      rw [correctorlaw4_EditMapsOrder_l0, if_neg (by omega)]
    | succ d =>
      refine ih (i + 1) m _ (by omega) (by omega) ?_
      have := mapV_mono (b := b) (i : Int) (by omega) es 0 0 (Int.le_refl _) (by omega) hf
      rw [show ((i : Int) + 1) = ((i + 1 : Nat) : Int) by omega] at this
      exact this
theorem mo_holds (F : Nat) (b : List UInt8) (l : List api_Edit) (hl : l.length ≤ 9223372036854775807) (hF : l.length + 3000 ≤ F) : correctorlaw4_EditMapsOrder F b l = some true := by
  unfold correctorlaw4_EditMapsOrder
  rw [known_eq F (by omega)]
  simp only [Option.bind_some, if_true]
  by_cases h : (60 : Int) < b.length
  · rw [if_pos h]
  · rw [if_neg h]
    obtain ⟨w, hw, hw2⟩ := few_eq F l hl (by omega)
    rw [hw]
    simp only [Option.bind_some]
    cases w with
    | false => rfl
    | true =>
      have h3 := hw2 rfl
      obtain ⟨es, g1, g2, g3, g4, g5, g6⟩ := good_ref F b.length l (by omega) (by omega) h3 (by omega)
      have ht := fine_tame (n := b.length) (by omega) es 0 (Int.le_refl _) g4
      have hr : doneL b es = restL b 0 es := rfl
      rw [if_pos rfl, g1]
      simp only [Option.bind_some]
      rw [g2]
      simp only [Option.bind_some]
      rw [apply_done F b es (by omega) g3 g4 g5 (by omega)]
      simp only [Option.bind_some]
      have h0 := mapV_ge (b := b) 0 es 0 0 (Int.le_refl _) (Int.le_refl _) (by omega) g4
      have hl0 := mo_l0 F b l es (doneL b es) 0 (by omega) g3 g4 (by omega) (b.length + 1) 0 F 0 (by omega) (by omega) (by simpa using h0)
      rw [show ((0 : Nat) : Int) = 0 from rfl] at hl0
      rw [hl0]
      simp only [Option.bind_some, if_true]
      have e1 := mapV_end (b := b) (b.length : Int) (by omega) es 0 0 (Int.le_refl _) (by omega) g4
      have e2 := mapV_end (b := b) ((b.length : Int) + 7) (by omega) es 0 0 (Int.le_refl _) (by omega) g4
      have hd := done_small (by omega) g3 g4 g5
      rw [hr] at hd ⊢
      have w1 : w64 ((b.length : Int) + 7) = (b.length : Int) + 7 := w64_eq (by omega) (by omega)
      have w2 : w64 (((restL b 0 es).length : Int) + 7) = ((restL b 0 es).length : Int) + 7 := w64_eq (by omega) (by omega)
      rw [map_eq F es _ (by omega) (by omega) (by omega) ht (by omega)]
      simp only [Option.bind_some]
      rw [if_pos (by omega), w1, w2, map_eq F es _ (by omega) (by omega) (by omega) ht (by omega)]
      simp only [Option.bind_some]
      rw [if_pos (by omega)]
end Go.Proofs.Ytdajldmgdpggkaa.M
