/- EditSurvives, plainly. -/
import Derived.Test.YtdajldmgdpggkaaP4D
import Derived.Test.YtdajldmgdpggkaaMLSurv0
namespace Go.Proofs.Ytdajldmgdpggkaa.M
open Go Am Sy
set_option linter.unusedVariables false
set_option linter.unusedSimpArgs false
theorem restL_len20 {b : List UInt8} {s : List api_Edit} {t : Int} (h0 : 0 ≤ t) (ht : t ≤ b.length) (hf : Fine b.length t s) (hp : ∀ e ∈ s, e.Put.b.length ≤ 20) : ((restL b t s).length : Int) ≤ (b.length : Int) - t + s.length * 20 := by
  have := outL_len20 s t h0 hf hp
  unfold restL
  omega
theorem mid_part {α : Type} (X Y Z : List α) : ((X ++ (Y ++ Z)).take (X.length + Y.length)).drop X.length = Y := by
  rw [← List.append_assoc, List.take_left' (by simp), List.drop_left]
theorem surv_l0 (F : Nat) (b : List UInt8) (l es : List api_Edit) (out : List UInt8) (hb : b.length ≤ 60) (hl : es.length ≤ 30) (hF : 2000 < F) : ∀ (s p : List api_Edit) (m : Nat) (t : Int) (o1 : List UInt8), es = p ++ s → s.length < m → 0 ≤ t → t ≤ b.length → Fine b.length t s → (∀ e ∈ s, e.Put.b.length ≤ 20) → out = o1 ++ restL b t s → out.length ≤ 1000 →
    ∃ o2 t', correctorlaw4_EditSurvives_l0 F b l m es out t (o1.length : Int) ((b.length : Int) - t + o1.length) (p.length : Int) = some (.inl (out, t', (o2.length : Int), (b.length : Int) - t' + o2.length)) ∧ 0 ≤ t' ∧ t' ≤ b.length ∧ out = o2 ++ b.drop t'.toNat := by
  intro s
  induction s with
  | nil =>
    intro p m t o1 h1 h2 h3 h4 h5 h6 h7 h8
    obtain ⟨m, rfl⟩ : ∃ k, m = k + 1 := ⟨m - 1, by omega⟩
    subst h1
    rw [correctorlaw4_EditSurvives_l0, if_neg (by simp)]
    exact ⟨o1, t, rfl, h3, h4, by simpa [restL, outL, lastTo] using h7⟩
  | cons e s ih =>
    intro p m t o1 h1 h2 h3 h4 ⟨a1, a2, a3, a4, a5⟩ h6 h7 h8
    obtain ⟨m, rfl⟩ : ∃ k, m = k + 1 := ⟨m - 1, by simp at h2; omega⟩
    subst h1
    simp only [List.length_cons, List.length_append] at h2 hl
    have hpl : ((b.take e.From.toNat).drop t.toNat).length = (e.From - t).toNat := by simp; omega
    obtain ⟨A, hA⟩ : ∃ A, A = (b.take e.From.toNat).drop t.toNat := ⟨_, rfl⟩
    rw [← hA] at hpl
    rw [restL_cons, ← hA] at h7
    have hol : out.length = o1.length + (A.length + (e.Put.b.length + (restL b e.To s).length)) := by rw [h7]; simp
    have e1 : w64 (e.From - t) = (A.length : Int) := by rw [w64_eq (by omega) (by omega), hpl]; omega
    have e2 : w64 ((o1.length : Int) + (A.length : Int)) = ((o1.length + A.length : Nat) : Int) := by rw [w64_eq (by omega) (by omega)]; omega
    have e3 : w64 (((o1.length + A.length : Nat) : Int) + (e.Put.b.length : Int)) = ((o1.length + A.length + e.Put.b.length : Nat) : Int) := by rw [w64_eq (by omega) (by omega)]; omega
    have e4 : w64 (e.To - e.From) = e.To - e.From := w64_eq (by omega) (by omega)
    have e5 : w64 ((b.length : Int) - t + (o1.length : Int) + (e.Put.b.length : Int)) = (b.length : Int) - t + (o1.length : Int) + (e.Put.b.length : Int) := w64_eq (by omega) (by omega)
    have e6 : w64 ((b.length : Int) - t + (o1.length : Int) + (e.Put.b.length : Int) - (e.To - e.From)) = (b.length : Int) - e.To + ((o1 ++ A ++ e.Put.b).length : Int) := by
      rw [w64_eq (by omega) (by omega)]; simp only [List.length_append]; omega
    rw [correctorlaw4_EditSurvives_l0, if_pos (mid_lt p s e).2]
    simp only [if_pos (mid_lt p s e), get_mid, Option.bind_some]
    simp only [e1, e2, e3, e4, e5, e6, Int.toNat_natCast]
    rw [if_neg (by omega), if_pos (by omega), if_pos ⟨h3, a1, by omega⟩]
    have s1 : (out.take (o1.length + A.length)).drop o1.length = A := by rw [h7]; exact mid_part _ _ _
    have s2 : (out.take (o1.length + A.length + e.Put.b.length)).drop (o1.length + A.length) = e.Put.b := by
      have h9 : out = (o1 ++ A) ++ (e.Put.b ++ restL b e.To s) := by rw [h7]; simp
      have := mid_part (o1 ++ A) e.Put.b (restL b e.To s)
      rw [← h9, List.length_append] at this
      exact this
    rw [s1, ← hA, if_pos rfl, if_pos (by omega), s2, if_pos rfl, step_mid p e (by omega)]
    have := ih (p ++ [e]) m e.To (o1 ++ A ++ e.Put.b) (by simp) (by omega) (by omega) a3 a5 (fun x hx => h6 x (List.mem_cons_of_mem _ hx)) (by rw [h7]; simp) h8
    rw [show ((o1 ++ A ++ e.Put.b).length : Int) = ((o1.length + A.length + e.Put.b.length : Nat) : Int) by simp; omega] at this
    rw [show ((o1 ++ A ++ e.Put.b).length : Int) = ((o1.length + A.length + e.Put.b.length : Nat) : Int) by simp; omega]
    exact this
theorem surv_holds (F : Nat) (b : List UInt8) (l : List api_Edit) (hl : l.length ≤ 9223372036854775807) (hF : l.length + 3000 ≤ F) : correctorlaw4_EditSurvives F b l = some true := by
  unfold correctorlaw4_EditSurvives
  rw [known_eq F (by omega)]
  simp only [Option.bind_some, if_true]
  by_cases h : (60 : Int) < b.length
  · rw [if_pos h]
  · rw [if_neg h]
    obtain ⟨w, hw, hw2⟩ := few_eq F l hl (by omega)
    rw [hw]
    simp only [Option.bind_some]
    cases w with
    | false => rfl
    | true =>
      have h3 := hw2 rfl
      obtain ⟨es, g1, g2, g3, g4, g5, g6⟩ := good_ref F b.length l (by omega) (by omega) h3 (by omega)
      rw [if_pos rfl, g1]
      simp only [Option.bind_some]
      rw [g2]
      simp only [Option.bind_some]
      rw [apply_done F b es (by omega) g3 g4 g5 (by omega)]
      simp only [Option.bind_some, if_true]
      have hd := done_small (by omega) g3 g4 g5
      obtain ⟨o2, t', q1, q2, q3, q4⟩ := surv_l0 F b l es (doneL b es) (by omega) g3 (by omega) es [] F 0 [] rfl (by omega) (Int.le_refl _) (by omega) g4 g5 rfl (by omega)
      have z : (b.length : Int) - 0 + (([] : List UInt8).length : Int) = (b.length : Int) := by simp
      rw [z, show (([] : List UInt8).length : Int) = 0 from rfl, show (([] : List api_Edit).length : Int) = 0 from rfl] at q1
      rw [q1]
      simp only [Option.bind_some]
      have hol : (doneL b es).length = o2.length + (b.length - t'.toNat) := by rw [q4]; simp
      rw [if_pos (by omega), if_pos (by omega), take_all, take_all, Int.toNat_natCast]
      have s1 : (doneL b es).drop o2.length = b.drop t'.toNat := by rw [q4]; simp
      rw [s1, if_pos rfl, if_pos (by omega)]
end Go.Proofs.Ytdajldmgdpggkaa.M
