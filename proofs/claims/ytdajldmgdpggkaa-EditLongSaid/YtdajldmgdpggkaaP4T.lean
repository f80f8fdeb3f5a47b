/- The library's stable sort, at edits, plainly: merging in place. -/
import Derived.Test.YtdajldmgdpggkaaP4S
namespace Go.Proofs.Ytdajldmgdpggkaa.M
open Go Am Sy
set_option linter.unusedVariables false
set_option linter.unusedSimpArgs false

/-! ### Two parts changed for one another -/
theorem swap_l0 (F : Nat) (a0 : List api_Edit) (P Q R : List api_Edit) : ∀ (U2 V2 U1 V1 : List api_Edit) (n : Nat), U2.length = V2.length → U1.length = V1.length → U2.length < n → (P ++ (V1 ++ U2) ++ Q ++ (U1 ++ V2) ++ R).length ≤ 1000000 →
    slices_swapRangeCmpFunc_api_Edit_l0 F a0 (P.length : Int) ((P.length + (V1 ++ U2).length + Q.length : Nat) : Int) ((V1 ++ U2).length : Int) n (P ++ (V1 ++ U2) ++ Q ++ (U1 ++ V2) ++ R) (V1.length : Int) = some (P ++ (V1 ++ V2) ++ Q ++ (U1 ++ U2) ++ R) := by
  intro U2
  induction U2 with
  | nil =>
    intro V2 U1 V1 n h1 h2 h3 h4
    obtain ⟨n, rfl⟩ : ∃ k, n = k + 1 := ⟨n - 1, by omega⟩
    have : V2 = [] := List.eq_nil_of_length_eq_zero (by simpa using h1.symm)
    subst this
    rw [slices_swapRangeCmpFunc_api_Edit_l0, if_neg (by simp)]
  | cons u U2 ih =>
    intro V2 U1 V1 n h1 h2 h3 h4
    obtain ⟨n, rfl⟩ : ∃ k, n = k + 1 := ⟨n - 1, by simp at h3; omega⟩
    cases V2 with
    | nil => simp at h1
    | cons v V2 =>
      simp only [List.length_cons, List.length_append] at h1 h3 h4
      have hl : (P ++ (V1 ++ u :: U2) ++ Q ++ (U1 ++ v :: V2) ++ R).length = P.length + V1.length + U2.length + Q.length + U1.length + V2.length + R.length + 2 := by simp; omega
      have i1 : w64 ((P.length : Int) + (V1.length : Int)) = ((P.length + V1.length : Nat) : Int) := w_add _ _ (by omega)
      have i2 : w64 (((P.length + (V1 ++ u :: U2).length + Q.length : Nat) : Int) + (V1.length : Int)) = ((P.length + (V1 ++ u :: U2).length + Q.length + V1.length : Nat) : Int) := w_add _ _ (by simp; omega)
      have e2 : P.length + (V1 ++ u :: U2).length + Q.length + V1.length = (P ++ (V1 ++ u :: U2) ++ Q ++ U1).length := by simp; omega
      have g1 : (P ++ (V1 ++ u :: U2) ++ Q ++ (U1 ++ v :: V2) ++ R)[P.length + V1.length]? = some u := get_at (P ++ V1) (U2 ++ Q ++ (U1 ++ v :: V2) ++ R) u (by simp) (by simp)
      have g2 : (P ++ (V1 ++ u :: U2) ++ Q ++ (U1 ++ v :: V2) ++ R)[P.length + (V1 ++ u :: U2).length + Q.length + V1.length]? = some v := get_at (P ++ (V1 ++ u :: U2) ++ Q ++ U1) (V2 ++ R) v (by simp) e2
      have s1 : (P ++ (V1 ++ u :: U2) ++ Q ++ (U1 ++ v :: V2) ++ R).set (P.length + V1.length) v = P ++ (V1 ++ v :: U2) ++ Q ++ (U1 ++ v :: V2) ++ R := by
        rw [set_at (P ++ V1) (U2 ++ Q ++ (U1 ++ v :: V2) ++ R) u v (by simp) (by simp)]; simp
      have g3 : (P ++ (V1 ++ v :: U2) ++ Q ++ (U1 ++ v :: V2) ++ R)[P.length + (V1 ++ u :: U2).length + Q.length + V1.length]? = some v := get_at (P ++ (V1 ++ v :: U2) ++ Q ++ U1) (V2 ++ R) v (by simp) (by simp; omega)
      have s2 : (P ++ (V1 ++ v :: U2) ++ Q ++ (U1 ++ v :: V2) ++ R).set (P.length + (V1 ++ u :: U2).length + Q.length + V1.length) u = P ++ ((V1 ++ [v]) ++ U2) ++ Q ++ ((U1 ++ [u]) ++ V2) ++ R := by
        rw [set_at (P ++ (V1 ++ v :: U2) ++ Q ++ U1) (V2 ++ R) v u (by simp) (by simp; omega)]; simp
      have hl2 : (P ++ (V1 ++ v :: U2) ++ Q ++ (U1 ++ v :: V2) ++ R).length = P.length + V1.length + U2.length + Q.length + U1.length + V2.length + R.length + 2 := by simp; omega
      rw [slices_swapRangeCmpFunc_api_Edit_l0, if_pos (by simp; omega)]
      have c1 := inb (n := P.length + V1.length) (l := P ++ (V1 ++ u :: U2) ++ Q ++ (U1 ++ v :: V2) ++ R) (by rw [hl]; omega)
      have c2 := inb (n := P.length + (V1 ++ u :: U2).length + Q.length + V1.length) (l := P ++ (V1 ++ u :: U2) ++ Q ++ (U1 ++ v :: V2) ++ R) (by rw [hl]; simp; omega)
      have c3 := inb (n := P.length + (V1 ++ u :: U2).length + Q.length + V1.length) (l := P ++ (V1 ++ v :: U2) ++ Q ++ (U1 ++ v :: V2) ++ R) (by rw [hl2]; simp; omega)
      simp only [i1, i2, if_pos c1, if_pos c2, get_nat, g1, g2, Option.bind_some, Int.toNat_natCast, s1, if_pos c3, g3, s2]
      have e3 : w64 ((V1.length : Int) + 1) = ((V1 ++ [v]).length : Int) := by rw [w64_eq (by omega) (by omega)]; simp
      have := ih V2 (U1 ++ [u]) (V1 ++ [v]) n (by omega) (by simp; omega) (by omega) (by simp; omega)
      rw [e3, show (V1 ++ u :: U2).length = (V1 ++ [v] ++ U2).length by simp]
      rw [this]
      simp
theorem swap_eq (F : Nat) (P U Q V R : List api_Edit) (h : U.length = V.length) (hl : (P ++ U ++ Q ++ V ++ R).length ≤ 1000000) (hF : U.length + 5 < F) {a b k : Int} (ha : a = P.length) (hb : b = ((P.length + U.length + Q.length : Nat) : Int)) (hk : k = U.length) :
    slices_swapRangeCmpFunc_api_Edit F (P ++ U ++ Q ++ V ++ R) a b k = some (P ++ V ++ Q ++ U ++ R) := by
  subst ha; subst hb; subst hk
  unfold slices_swapRangeCmpFunc_api_Edit
  have := swap_l0 F (P ++ U ++ Q ++ V ++ R) P Q R U V [] [] F h rfl (by omega) (by simpa using hl)
  simp only [List.nil_append, List.length_nil] at this
  rw [show ((0 : Nat) : Int) = 0 from rfl] at this
  rw [this]; rfl
/-! ### Turning -/
theorem rot_l0 (F : Nat) (a0 : List api_Edit) (a1 a2 a3 : Int) : ∀ (d : Nat) (P X Y S : List api_Edit) (n : Nat), X.length + Y.length = d → d < n → 0 < X.length → 0 < Y.length → (P ++ X ++ Y ++ S).length ≤ 1000000 → d + 10 < F → a2 = ((P.length + X.length : Nat) : Int) →
    ∃ P' X' Y' S', slices_rotateCmpFunc_api_Edit_l0 F a0 a1 a2 a3 n (P ++ X ++ Y ++ S) (X.length : Int) (Y.length : Int) = some (P' ++ X' ++ Y' ++ S', (X'.length : Int)) ∧ X'.length = Y'.length ∧ a2 = ((P'.length + X'.length : Nat) : Int) ∧ P' ++ Y' ++ X' ++ S' = P ++ Y ++ X ++ S ∧ (P' ++ X' ++ Y' ++ S').length = (P ++ X ++ Y ++ S).length ∧ X'.length ≤ d := by
  intro d
  induction d using Nat.strongRecOn with
  | ind d ih =>
    intro P X Y S n h1 h2 h3 h4 h5 h6 h7
    obtain ⟨n, rfl⟩ : ∃ k, n = k + 1 := ⟨n - 1, by omega⟩
    rw [slices_rotateCmpFunc_api_Edit_l0]
    simp only [List.length_append] at h5
    by_cases e : X.length = Y.length
    · rw [if_pos (by omega)]
      exact ⟨P, X, Y, S, rfl, e, h7, rfl, rfl, by omega⟩
    · rw [if_neg (by omega)]
      by_cases g : Y.length < X.length
      · rw [if_pos (by omega)]
        obtain ⟨X1, X2, rfl, hx⟩ : ∃ X1 X2, X = X1 ++ X2 ∧ X1.length = Y.length := ⟨X.take Y.length, X.drop Y.length, (List.take_append_drop _ _).symm, by simp; omega⟩
        simp only [List.length_append] at *
        have e1 : w64 (a2 - ((X1.length + X2.length : Nat) : Int)) = (P.length : Int) := by rw [w64_eq (by omega) (by omega)]; omega
        have hs := swap_eq F P X1 X2 Y S hx (by simp; omega) (by omega) (a := (P.length : Int)) (b := a2) (k := (Y.length : Int)) rfl (by omega) (by omega)
        rw [e1, show P ++ (X1 ++ X2) ++ Y ++ S = P ++ X1 ++ X2 ++ Y ++ S by simp, hs]
        simp only [Option.bind_some]
        have e2 : w64 (((X1.length + X2.length : Nat) : Int) - (Y.length : Int)) = (X2.length : Int) := by rw [w64_eq (by omega) (by omega)]; omega
        obtain ⟨P', X', Y', S', q1, q2, q3, q4, q5, q6⟩ := ih (X2.length + X1.length) (by omega) (P ++ Y) X2 X1 S n rfl (by omega) (by omega) (by omega) (by simp; omega) (by omega) (by rw [h7]; simp; omega)
        refine ⟨P', X', Y', S', ?_, q2, q3, ?_, ?_, by omega⟩
        · rw [e2, ← hx]; exact q1
        · rw [q4]; simp
        · rw [q5]; simp; omega
      · rw [if_neg (by omega)]
        obtain ⟨Y1, Y2, rfl, hy⟩ : ∃ Y1 Y2, Y = Y1 ++ Y2 ∧ Y2.length = X.length := ⟨Y.take (Y.length - X.length), Y.drop (Y.length - X.length), (List.take_append_drop _ _).symm, by simp; omega⟩
        simp only [List.length_append] at *
        have e1 : w64 (a2 - (X.length : Int)) = (P.length : Int) := by rw [w64_eq (by omega) (by omega)]; omega
        have e3 : w64 (w64 (a2 + ((Y1.length + Y2.length : Nat) : Int)) - (X.length : Int)) = ((P.length + X.length + Y1.length : Nat) : Int) := by
          rw [w64_eq (x := a2 + _) (by omega) (by omega), w64_eq (by omega) (by omega)]; omega
        have hs := swap_eq F P X Y1 Y2 S hy.symm (by simp; omega) (by omega) (a := (P.length : Int)) (b := ((P.length + X.length + Y1.length : Nat) : Int)) (k := (X.length : Int)) rfl rfl rfl
        rw [e1, e3, show P ++ X ++ (Y1 ++ Y2) ++ S = P ++ X ++ Y1 ++ Y2 ++ S by simp, hs]
        simp only [Option.bind_some]
        have e2 : w64 (((Y1.length + Y2.length : Nat) : Int) - (X.length : Int)) = (Y1.length : Int) := by rw [w64_eq (by omega) (by omega)]; omega
        obtain ⟨P', X', Y', S', q1, q2, q3, q4, q5, q6⟩ := ih (Y2.length + Y1.length) (by omega) P Y2 Y1 (X ++ S) n rfl (by omega) (by omega) (by omega) (by simp; omega) (by omega) (by rw [h7]; omega)
        refine ⟨P', X', Y', S', ?_, q2, q3, ?_, ?_, by omega⟩
        · rw [e2, ← hy]
          have : P ++ Y2 ++ Y1 ++ X ++ S = P ++ Y2 ++ Y1 ++ (X ++ S) := by simp
          rw [this]; exact q1
        · rw [q4]; simp
        · rw [q5]; simp; omega
theorem rot_eq (F : Nat) (P X Y S : List api_Edit) (hx : 0 < X.length) (hy : 0 < Y.length) (hl : (P ++ X ++ Y ++ S).length ≤ 1000000) (hF : X.length + Y.length + 10 < F) {a b c : Int} (ha : a = P.length) (hb : b = ((P.length + X.length : Nat) : Int)) (hc : c = ((P.length + X.length + Y.length : Nat) : Int)) :
    slices_rotateCmpFunc_api_Edit F (P ++ X ++ Y ++ S) a b c = some (P ++ Y ++ X ++ S) := by
  unfold slices_rotateCmpFunc_api_Edit
  simp only [List.length_append] at hl
  have e1 : w64 (b - a) = (X.length : Int) := by rw [w64_eq (by omega) (by omega)]; omega
  have e2 : w64 (c - b) = (Y.length : Int) := by rw [w64_eq (by omega) (by omega)]; omega
  obtain ⟨P', X', Y', S', q1, q2, q3, q4, q5, q6⟩ := rot_l0 F (P ++ X ++ Y ++ S) a b c (X.length + Y.length) P X Y S F rfl (by omega) hx hy (by simp; omega) hF hb
  rw [e1, e2, q1]
  simp only [Option.bind_some]
  have hl2 : (P' ++ X' ++ Y' ++ S').length = P.length + X.length + Y.length + S.length := by rw [q5]; simp; omega
  simp only [List.length_append] at hl2
  have e3 : w64 (b - (X'.length : Int)) = (P'.length : Int) := by rw [w64_eq (by omega) (by omega)]; omega
  have hs := swap_eq F P' X' [] Y' S' q2 (by simp; omega) (by omega) (a := (P'.length : Int)) (b := b) (k := (X'.length : Int)) rfl (by simp; omega) rfl
  simp only [List.append_nil] at hs
  rw [e3, hs]
  simp only [Option.bind_some, q4]
end Go.Proofs.Ytdajldmgdpggkaa.M
