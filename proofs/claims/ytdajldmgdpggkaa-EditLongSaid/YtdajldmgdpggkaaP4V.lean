/- The library's stable sort, at edits, plainly: the whole. -/
import Derived.Test.YtdajldmgdpggkaaP4U
namespace Go.Proofs.Ytdajldmgdpggkaa.M
open Go Am Sy
set_option linter.unusedVariables false
set_option linter.unusedSimpArgs false

/-- Pieces of k, each in order; the last one may be less. -/
inductive Ch (k : Nat) : List api_Edit → Prop where
  | last {X : List api_Edit} (h : X.length ≤ k) (s : Srt X) : Ch k X
  | cons {X R : List api_Edit} (h : X.length = k) (s : Srt X) (c : Ch k R) : Ch k (X ++ R)
theorem Ch.snoc {k : Nat} {D X : List api_Edit} (h : ∃ q, D.length = q * k) (hD : Ch k D) (hk : 0 < k) (hX : Ch k X) : Ch k (D ++ X) := by
  induction hD with
  | @last Y h1 s1 =>
    obtain ⟨q, hq⟩ := h
    rcases Nat.eq_zero_or_pos q with rfl | hq0
    · have : Y = [] := List.eq_nil_of_length_eq_zero (by simpa using hq)
      subst this; simpa using hX
    · have h2 : k ≤ Y.length := by rw [hq]; exact Nat.le_mul_of_pos_left k hq0
      exact .cons (by omega) s1 hX
  | @cons Y R h1 s1 c1 ih =>
    rw [List.append_assoc]
    obtain ⟨q, hq⟩ := h
    refine .cons h1 s1 (ih ?_)
    rw [List.length_append, h1] at hq
    rcases Nat.eq_zero_or_pos q with rfl | hq0
    · simp at hq; omega
    · exact ⟨q - 1, by rw [Nat.sub_mul]; omega⟩
theorem Ch.parts {k : Nat} (hk : 0 < k) {R : List api_Edit} (h : Ch k R) (hl : k < R.length) : ∃ X Y, R = X ++ Y ∧ X.length = k ∧ Srt X ∧ Ch k Y := by
  cases h with
  | last h s => omega
  | cons h s c => exact ⟨_, _, rfl, h, s, c⟩
theorem Ch.one {k : Nat} {R : List api_Edit} (h : Ch k R) (hl : R.length ≤ k) : Srt R := by
  cases h with
  | last h s => exact s
  | @cons X Y h s c =>
    have : Y = [] := List.eq_nil_of_length_eq_zero (by simp at hl; omega)
    subst this; simpa using s
theorem Ch.two {k : Nat} (hk : 0 < k) {R : List api_Edit} (h : Ch k R) (hl : 2 * k ≤ R.length) : ∃ X Y Q, R = X ++ Y ++ Q ∧ X.length = k ∧ Y.length = k ∧ Srt X ∧ Srt Y ∧ Ch k Q := by
  obtain ⟨X, Y, rfl, h1, h2, h3⟩ := h.parts hk (by omega)
  simp only [List.length_append] at hl
  by_cases e : Y.length = k
  · exact ⟨X, Y, [], by simp, h1, e, h2, h3.one (by omega), .last (by simp) List.Pairwise.nil⟩
  · obtain ⟨Y1, Y2, rfl, g1, g2, g3⟩ := h3.parts hk (by omega)
    exact ⟨X, Y1, Y2, by simp, h1, g1, h2, g2, g3⟩
theorem st_l0 (F : Nat) (a0 : List api_Edit) (n : Nat) : ∀ (d : Nat) (D R : List api_Edit) (m : Nat), R.length = d → d < m → (D ++ R).length = n → n ≤ 1000 → 2000 < F → (∃ q, D.length = q * 20) → Ch 20 D →
    ∃ D' R', slices_stableCmpFunc_api_Edit_l0 F a0 (n : Int) m (D ++ R) (D.length : Int) ((D.length + 20 : Nat) : Int) = some (D' ++ R', (D'.length : Int)) ∧ R'.length < 20 ∧ (∃ q, D'.length = q * 20) ∧ Ch 20 D' ∧ (D' ++ R').Perm (D ++ R) := by
  intro d
  induction d using Nat.strongRecOn with
  | ind d ih =>
    intro D R m h1 h2 h3 h4 h5 h6 h7
    obtain ⟨m, rfl⟩ : ∃ k, m = k + 1 := ⟨m - 1, by omega⟩
    simp only [List.length_append] at h3
    rw [slices_stableCmpFunc_api_Edit_l0]
    by_cases e : R.length < 20
    · rw [if_neg (by omega)]
      exact ⟨D, R, rfl, e, h6, h7, List.Perm.refl _⟩
    · rw [if_pos (by omega)]
      obtain ⟨X, Y, rfl, hX⟩ : ∃ X Y, R = X ++ Y ∧ X.length = 20 := ⟨R.take 20, R.drop 20, (List.take_append_drop _ _).symm, by simp; omega⟩
      simp only [List.length_append] at h1 h3 e
      obtain ⟨C, c1, c2, c3⟩ := ins_eq F D X Y (by simp; omega) (by omega)
      have hC : C.length = 20 := by rw [c3.length_eq, hX]
      rw [show ((D.length + 20 : Nat) : Int) = ((D.length + X.length : Nat) : Int) by rw [hX], show D ++ (X ++ Y) = D ++ X ++ Y by simp, c1]
      simp only [Option.bind_some]
      have e1 : w64 (((D.length + X.length : Nat) : Int) + 20) = (((D ++ C).length + 20 : Nat) : Int) := by rw [w64_eq (by omega) (by omega), List.length_append]; omega
      have e2 : ((D.length + X.length : Nat) : Int) = ((D ++ C).length : Int) := by rw [List.length_append]; omega
      rw [e1, e2]
      obtain ⟨q, hq⟩ := h6
      obtain ⟨D', R', r1, r2, r3, r4, r5⟩ := ih Y.length (by omega) (D ++ C) Y m rfl (by omega) (by simp; omega) h4 h5 ⟨q + 1, by simp; omega⟩ (h7.snoc ⟨q, hq⟩ (by decide) (.last (by omega) c2))
      exact ⟨D', R', r1, r2, r3, r4, r5.trans ((List.Perm.append_left D c3).append_right Y)⟩
theorem st_l2 (F : Nat) (a0 : List api_Edit) (n k : Nat) (hk : 0 < k) (hk2 : k < 1000) : ∀ (d : Nat) (D R : List api_Edit) (m : Nat), R.length = d → d < m → (D ++ R).length = n → n ≤ 1000 → 2000 < F → (∃ q, D.length = q * (2 * k)) → Ch (2 * k) D → Ch k R →
    ∃ D' R', slices_stableCmpFunc_api_Edit_l2 F a0 (n : Int) m (D ++ R) (k : Int) (D.length : Int) ((D.length + 2 * k : Nat) : Int) = some (D' ++ R', (k : Int), (D'.length : Int)) ∧ R'.length < 2 * k ∧ (∃ q, D'.length = q * (2 * k)) ∧ Ch (2 * k) D' ∧ Ch k R' ∧ (D' ++ R').Perm (D ++ R) := by
  intro d
  induction d using Nat.strongRecOn with
  | ind d ih =>
    intro D R m h1 h2 h3 h4 h5 h6 h7 h8
    obtain ⟨m, rfl⟩ : ∃ k, m = k + 1 := ⟨m - 1, by omega⟩
    simp only [List.length_append] at h3
    rw [slices_stableCmpFunc_api_Edit_l2]
    by_cases e : R.length < 2 * k
    · rw [if_neg (by omega)]
      exact ⟨D, R, rfl, e, h6, h7, h8, List.Perm.refl _⟩
    · rw [if_pos (by omega)]
      obtain ⟨X, Y, Q, rfl, hX, hY, sX, sY, cQ⟩ := h8.two hk (by omega)
      simp only [List.length_append] at h1 h3 e
      obtain ⟨C, c1, c2, c3⟩ := sym_eq F (X.length + Y.length) D X Y Q F rfl (by omega) (by omega) (by omega) (by simp; omega) (by omega) sX sY
      have hC : C.length = 2 * k := by rw [c3.length_eq, List.length_append]; omega
      have e0 : w64 ((D.length : Int) + (k : Int)) = ((D.length + X.length : Nat) : Int) := by rw [w64_eq (by omega) (by omega)]; omega
      rw [e0, show ((D.length + 2 * k : Nat) : Int) = ((D.length + X.length + Y.length : Nat) : Int) by congr 1; omega, show D ++ (X ++ Y ++ Q) = D ++ X ++ Y ++ Q by simp]
      show ∃ D' R', ((slices_symMergeCmpFunc_api_Edit_r F F _ _ _ _).bind _) = _ ∧ _
      rw [c1]
      simp only [Option.bind_some]
      have e1 : w64 (((D.length + X.length + Y.length : Nat) : Int) + w64 (2 * (k : Int))) = (((D ++ C).length + 2 * k : Nat) : Int) := by rw [w64_eq (x := 2 * (k : Int)) (by omega) (by omega), w64_eq (by omega) (by omega), List.length_append]; omega
      have e2 : ((D.length + X.length + Y.length : Nat) : Int) = ((D ++ C).length : Int) := by rw [List.length_append]; omega
      rw [e1, e2]
      obtain ⟨q, hq⟩ := h6
      obtain ⟨D', R', r1, r2, r3, r4, r5, r6⟩ := ih Q.length (by omega) (D ++ C) Q m rfl (by omega) (by simp; omega) h4 h5 ⟨q + 1, by rw [List.length_append, Nat.add_mul]; omega⟩ (h7.snoc ⟨q, hq⟩ (by omega) (.last (by omega) c2)) cQ
      refine ⟨D', R', r1, r2, r3, r4, r5, r6.trans ?_⟩
      have := (List.Perm.append_left D c3).append_right Q
      simpa using this
theorem st_l1 (F : Nat) (a0 : List api_Edit) (n : Nat) : ∀ (d : Nat) (L : List api_Edit) (k m : Nat), n - k = d → d < m → L.length = n → n ≤ 1000 → 2000 < F → 0 < k → k ≤ 2000 → Ch k L →
    ∃ L', slices_stableCmpFunc_api_Edit_l1 F a0 (n : Int) m L (k : Int) = some L' ∧ Srt L' ∧ L'.Perm L := by
  intro d
  induction d using Nat.strongRecOn with
  | ind d ih =>
    intro L k m h1 h2 h3 h4 h5 h6 h7 h8
    obtain ⟨m, rfl⟩ : ∃ k, m = k + 1 := ⟨m - 1, by omega⟩
    rw [slices_stableCmpFunc_api_Edit_l1]
    by_cases e : k < n
    · rw [if_pos (by omega)]
      have e1 : w64 (2 * (k : Int)) = ((0 + 2 * k : Nat) : Int) := by rw [w64_eq (by omega) (by omega)]; omega
      obtain ⟨D, R, q1, q2, q3, q4, q5, q6⟩ := st_l2 F a0 n k h6 (by omega) L.length [] L F rfl (by omega) (by simpa using h3) h4 h5 ⟨0, by simp⟩ (.last (by simp) List.Pairwise.nil) h8
      simp only [List.nil_append, List.length_nil] at q1
      rw [show ((0 : Nat) : Int) = 0 from rfl] at q1
      rw [e1, q1]
      simp only [Option.bind_some]
      simp only [List.nil_append] at q6
      have hDR : D.length + R.length = n := by have := q6.length_eq; rw [List.length_append] at this; omega
      have e2 : w64 ((D.length : Int) + (k : Int)) = ((D.length + k : Nat) : Int) := w_add _ _ (by omega)
      have e3 : w64 ((k : Int) * 2) = ((2 * k : Nat) : Int) := by rw [w64_eq (by omega) (by omega)]; omega
      rw [e2, e3]
      by_cases g : D.length + k < n
      · rw [if_pos (by omega)]
        obtain ⟨X, Y, rfl, hX, sX, cY⟩ := q5.parts h6 (by omega)
        simp only [List.length_append] at q2 hDR
        obtain ⟨C, c1, c2, c3⟩ := sym_eq F (X.length + Y.length) D X Y [] F rfl (by omega) (by omega) (by omega) (by simp; omega) (by omega) sX (cY.one (by omega))
        have hC : C.length = X.length + Y.length := by rw [c3.length_eq, List.length_append]
        rw [show ((D.length + k : Nat) : Int) = ((D.length + X.length : Nat) : Int) by rw [hX], show (n : Int) = ((D.length + X.length + Y.length : Nat) : Int) by congr 1; omega, show D ++ (X ++ Y) = D ++ X ++ Y ++ [] by simp]
        show ∃ L', ((Option.bind (Option.bind (slices_symMergeCmpFunc_api_Edit_r F F _ _ _ _) _) _)) = _ ∧ _
        rw [c1]
        simp only [Option.bind_some, List.append_nil]
        obtain ⟨L', r1, r2, r3⟩ := ih (n - 2 * k) (by omega) (D ++ C) (2 * k) m rfl (by omega) (by rw [List.length_append]; omega) h4 h5 (by omega) (by omega) (q4.snoc q3 (by omega) (.last (by omega) c2))
        rw [show n = D.length + X.length + Y.length by omega] at r1
        exact ⟨L', r1, r2, r3.trans ((List.Perm.append_left D c3).trans q6)⟩
      · rw [if_neg (by omega)]
        simp only [Option.bind_some]
        obtain ⟨L', r1, r2, r3⟩ := ih (n - 2 * k) (by omega) (D ++ R) (2 * k) m rfl (by omega) (by rw [List.length_append]; omega) h4 h5 (by omega) (by omega) (q4.snoc q3 (by omega) (.last (by omega) (q5.one (by omega))))
        exact ⟨L', r1, r2, r3.trans q6⟩
    · rw [if_neg (by omega)]
      exact ⟨L, rfl, h8.one (by omega), List.Perm.refl _⟩
theorem sort_eq (F : Nat) (l : List api_Edit) (hl : l.length ≤ 1000) (hF : 2000 < F) : ∃ r, slices_SortStableFunc_api_Edit F l = some r ∧ Srt r ∧ r.Perm l := by
  unfold slices_SortStableFunc_api_Edit slices_stableCmpFunc_api_Edit
  obtain ⟨D, R, q1, q2, q3, q4, q5⟩ := st_l0 F l l.length l.length [] l F rfl (by omega) (by simp) hl hF ⟨0, by simp⟩ (.last (by simp) List.Pairwise.nil)
  simp only [List.nil_append, List.length_nil] at q1 q5
  rw [show ((0 : Nat) : Int) = 0 from rfl, show ((0 + 20 : Nat) : Int) = 20 from rfl] at q1
  rw [q1]
  simp only [Option.bind_some]
  have hDR : D.length + R.length = l.length := by have := q5.length_eq; rw [List.length_append] at this; omega
  obtain ⟨C, c1, c2, c3⟩ := ins_eq F D R [] (by simp; omega) (by omega)
  simp only [List.append_nil] at c1
  rw [show (l.length : Int) = ((D.length + R.length : Nat) : Int) by congr 1; omega, c1]
  simp only [Option.bind_some]
  have hC : C.length = R.length := c3.length_eq
  obtain ⟨L', r1, r2, r3⟩ := st_l1 F l l.length (l.length - 20) (D ++ C) 20 F rfl (by omega) (by rw [List.length_append]; omega) hl hF (by decide) (by decide) (q4.snoc q3 (by decide) (.last (by omega) c2))
  rw [show ((D.length + R.length : Nat) : Int) = (l.length : Int) by rw [hDR], show (20 : Int) = ((20 : Nat) : Int) from rfl, r1]
  exact ⟨L', rfl, r2, r3.trans ((List.Perm.append_left D c3).trans q5)⟩
end Go.Proofs.Ytdajldmgdpggkaa.M
