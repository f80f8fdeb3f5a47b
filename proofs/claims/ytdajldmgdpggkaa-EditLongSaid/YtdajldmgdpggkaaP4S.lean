/- The library's stable sort, at edits, plainly: what comes is in order, and the same edits. -/
import Derived.Test.YtdajldmgdpggkaaP4A
import Derived.Test.YtdajldmgdpggkaaMC0
namespace Go.Proofs.Ytdajldmgdpggkaa.M
open Go Am Sy
set_option linter.unusedVariables false
set_option linter.unusedSimpArgs false

/-! ### The order -/
def klt (x y : api_Edit) : Prop := x.From < y.From ∨ x.From = y.From ∧ x.To < y.To
def kle (x y : api_Edit) : Prop := x.From < y.From ∨ x.From = y.From ∧ x.To ≤ y.To
theorem kle_iff {x y : api_Edit} : kle x y ↔ ¬ klt y x := by unfold kle klt; omega
theorem kle_refl (x : api_Edit) : kle x x := by unfold kle; omega
theorem kle_trans {x y z : api_Edit} (h : kle x y) (k : kle y z) : kle x z := by unfold kle at *; omega
theorem klt_kle {x y : api_Edit} (h : klt x y) : kle x y := by unfold kle klt at *; omega
theorem nan_eq (F : Nat) (a : Int) : cmp_isNaN_int F a = some false := by unfold cmp_isNaN_int; rw [if_pos rfl]
def cmpV (a b : Int) : Int := if a < b then -1 else if b < a then 1 else 0
theorem compare_eq (F : Nat) (a b : Int) : cmp_Compare_int F a b = some (cmpV a b) := by
  unfold cmp_Compare_int cmpV
  simp only [nan_eq, Option.bind_some, Bool.false_eq_true, if_false]
  by_cases h : a < b
  · rw [if_pos h, if_pos h]
  · rw [if_neg h, if_neg h]
    by_cases k : b < a
    · rw [if_pos k, if_pos k]
    · rw [if_neg k, if_neg k]
theorem or_eq (F : Nat) (a b : Int) (hF : 5 < F) : cmp_Or_int F [a, b] = some (if a = 0 then b else a) := by
  obtain ⟨F, rfl⟩ : ∃ k, F = k + 3 := ⟨F - 3, by omega⟩
  unfold cmp_Or_int
  rw [cmp_Or_int_l0, if_pos (by simp), if_pos (by simp)]
  have e0 : [a, b][(0 : Int).toNat]? = some a := rfl
  rw [e0]
  simp only [Option.bind_some]
  by_cases ha : a = 0
  · rw [if_pos ha, if_pos ha]
    have e1 : w64 (0 + 1) = 1 := by decide
    rw [e1, cmp_Or_int_l0, if_pos (by simp), if_pos (by simp)]
    have e2 : [a, b][(1 : Int).toNat]? = some b := rfl
    rw [e2]
    simp only [Option.bind_some]
    by_cases hb : b = 0
    · rw [if_pos hb]
      have e3 : w64 (1 + 1) = 2 := by decide
      rw [e3, cmp_Or_int_l0, if_neg (by simp)]
      simp only [Option.bind_some, hb]
    · rw [if_neg hb]; rfl
  · rw [if_neg ha, if_neg ha]; rfl
theorem cmp_eq (F : Nat) (x y : api_Edit) (hF : 5 < F) : ∃ c, edit_Choose_2 F x y = some c ∧ (c < 0 ↔ klt x y) := by
  unfold edit_Choose_2 edit_order
  simp only [compare_eq, or_eq F _ _ hF, Option.bind_some]
  refine ⟨_, rfl, ?_⟩
  unfold cmpV klt
  repeat' split
  all_goals omega
def Srt (l : List api_Edit) : Prop := l.Pairwise kle

/-! ### Places in rows -/
theorem get_at {α : Type} {l : List α} (Q R : List α) (x : α) {k : Nat} (h : l = Q ++ x :: R) (hk : k = Q.length) : l[k]? = some x := by subst h; subst hk; simp
theorem set_at {α : Type} {l : List α} (Q R : List α) (x y : α) {k : Nat} (h : l = Q ++ x :: R) (hk : k = Q.length) : l.set k y = Q ++ y :: R := by subst h; subst hk; simp
theorem half_eq (i j : Nat) (h : i + j < 4611686018427387904) : w64 (ishr .u64 (IntKind.wrap .u64 (w64 ((i : Int) + (j : Int)))) 1) = (((i + j) / 2 : Nat) : Int) := by
  have e1 : w64 ((i : Int) + (j : Int)) = ((i + j : Nat) : Int) := by rw [w64_eq (by omega) (by omega)]; omega
  have e2 : IntKind.wrap .u64 ((i + j : Nat) : Int) = ((i + j : Nat) : Int) := by
    unfold IntKind.wrap
    have hb : (2 : Int) ^ IntKind.u64.bits = 18446744073709551616 := by decide
    have hs : IntKind.u64.signed = false := rfl
    simp only [hb, hs, Bool.false_and]
    rw [if_neg (by simp)]
    omega
  rw [e1, e2]
  have e3 : ishr .u64 ((i + j : Nat) : Int) 1 = (((i + j) / 2 : Nat) : Int) := by
    unfold ishr
    have hm : (min (1 : Int).toNat IntKind.u64.bits) = 1 := by decide
    rw [hm]
    show Int.fdiv _ 2 = _
    rw [Int.fdiv_eq_ediv_of_nonneg _ (by omega)]
    omega
  rw [e3, w64_eq (by omega) (by omega)]
theorem w_add (i j : Nat) (h : i + j < 4611686018427387904) : w64 ((i : Int) + (j : Int)) = ((i + j : Nat) : Int) := by rw [w64_eq (by omega) (by omega)]; omega
theorem w_sub (i j : Nat) (h : j ≤ i) (h2 : i < 4611686018427387904) : w64 ((i : Int) - (j : Int)) = ((i - j : Nat) : Int) := by rw [w64_eq (by omega) (by omega)]; omega
theorem inb {n : Nat} {l : List api_Edit} (h : n < l.length) : (0 : Int) ≤ (n : Int) ∧ (n : Int) < (l.length : Int) := by omega

/-! ### Sorting by moving in -/
theorem ins_l1 (F : Nat) (hF : 5 < F) (a0 : List api_Edit) (a1 a2 : Int) (P T : List api_Edit) (x : api_Edit) (i : Int) (hP : (a1 : Int) = P.length) : ∀ (d : Nat) (C1 C2 : List api_Edit) (n : Nat), C1.length = d → d < n → (P ++ C1 ++ x :: (C2 ++ T)).length ≤ 1000000 →
    Srt C1 → (∀ y ∈ C2, klt x y) →
    ∃ D1 D2, C1 = D1 ++ D2 ∧ slices_insertionSortCmpFunc_api_Edit_l1 F a0 a1 a2 n (P ++ C1 ++ x :: (C2 ++ T)) i ((P.length + C1.length : Nat) : Int) = some (P ++ D1 ++ x :: (D2 ++ C2 ++ T), i) ∧ (∀ y ∈ D2, klt x y) ∧ (∀ y ∈ D1, kle y x) := by
  intro d
  induction d with
  | zero =>
    intro C1 C2 n h1 h2 h3 h4 h5
    obtain ⟨n, rfl⟩ : ∃ k, n = k + 1 := ⟨n - 1, by omega⟩
    have : C1 = [] := List.eq_nil_of_length_eq_zero h1
    subst this
    refine ⟨[], [], rfl, ?_, by simp, by simp⟩
    rw [slices_insertionSortCmpFunc_api_Edit_l1, if_neg (by simp; omega)]
    simp
  | succ d ih =>
    intro C1 C2 n h1 h2 h3 h4 h5
    obtain ⟨n, rfl⟩ : ∃ k, n = k + 1 := ⟨n - 1, by omega⟩
    obtain ⟨C, y, rfl⟩ : ∃ C y, C1 = C ++ [y] := by
      rcases List.eq_nil_or_concat C1 with rfl | ⟨q, y, rfl⟩
      · simp at h1
      · exact ⟨q, y, List.concat_eq_append⟩
    simp only [List.length_append, List.length_cons, List.length_nil] at h1 h3
    have hl : (P ++ (C ++ [y]) ++ x :: (C2 ++ T)).length = P.length + C.length + C2.length + T.length + 2 := by simp; omega
    have hk : P.length + (C ++ [y]).length = P.length + C.length + 1 := by simp; omega
    rw [slices_insertionSortCmpFunc_api_Edit_l1, hk, if_pos (by omega)]
    have e1 : w64 (((P.length + C.length + 1 : Nat) : Int) - 1) = ((P.length + C.length : Nat) : Int) := by rw [w64_eq (by omega) (by omega)]; omega
    have g1 : (P ++ (C ++ [y]) ++ x :: (C2 ++ T))[P.length + C.length + 1]? = some x := get_at (P ++ C ++ [y]) (C2 ++ T) x (by simp) (by simp; omega)
    have g2 : (P ++ (C ++ [y]) ++ x :: (C2 ++ T))[P.length + C.length]? = some y := get_at (P ++ C) (x :: (C2 ++ T)) y (by simp) (by simp)
    have c1 : (0 : Int) ≤ ((P.length + C.length + 1 : Nat) : Int) ∧ ((P.length + C.length + 1 : Nat) : Int) < ((P ++ (C ++ [y]) ++ x :: (C2 ++ T)).length : Int) := inb (by rw [hl]; omega)
    have c2 : (0 : Int) ≤ ((P.length + C.length : Nat) : Int) ∧ ((P.length + C.length : Nat) : Int) < ((P ++ (C ++ [y]) ++ x :: (C2 ++ T)).length : Int) := inb (by rw [hl]; omega)
    simp only [e1, if_pos c1, if_pos c2, get_nat, g1, g2, Option.bind_some]
    obtain ⟨c, hc, hc2⟩ := cmp_eq F x y hF
    rw [hc]
    simp only [Option.bind_some]
    by_cases hlt : c < 0
    · rw [if_pos hlt]
      have s1 : (P ++ (C ++ [y]) ++ x :: (C2 ++ T)).set (P.length + C.length + 1) y = P ++ C ++ [y] ++ y :: (C2 ++ T) := set_at (P ++ C ++ [y]) (C2 ++ T) x y (by simp) (by simp; omega)
      have s2 : (P ++ C ++ [y] ++ y :: (C2 ++ T)).set (P.length + C.length) x = P ++ C ++ x :: (y :: C2 ++ T) := by
        rw [set_at (P ++ C) (y :: (C2 ++ T)) y x (by simp) (by simp)]; simp
      have c3 : (0 : Int) ≤ ((P.length + C.length : Nat) : Int) ∧ ((P.length + C.length : Nat) : Int) < (((P ++ (C ++ [y]) ++ x :: (C2 ++ T)).set (P.length + C.length + 1) y).length : Int) := inb (by rw [List.length_set, hl]; omega)
      simp only [Int.toNat_natCast, if_pos c1, if_pos c3]
      rw [s1]
      have g3 : (P ++ C ++ [y] ++ y :: (C2 ++ T))[P.length + C.length]? = some y := get_at (P ++ C) (y :: (C2 ++ T)) y (by simp) (by simp)
      rw [g3]
      simp only [Option.bind_some]
      rw [s2]
      obtain ⟨D1, D2, q1, q2, q3, q4⟩ := ih C (y :: C2) n (by omega) (by omega) (by simp; omega) (List.pairwise_append.1 h4).1 (fun z hz => by
        rcases List.mem_cons.1 hz with rfl | hz
        · exact hc2.1 hlt
        · exact h5 z hz)
      refine ⟨D1, D2 ++ [y], by rw [q1]; simp, ?_, fun z hz => ?_, q4⟩
      · rw [q2]; simp
      · rcases List.mem_append.1 hz with hz | hz
        · exact q3 z hz
        · simp at hz; subst hz; exact hc2.1 hlt
    · rw [if_neg hlt]
      refine ⟨C ++ [y], [], by simp, by simp, by simp, fun z hz => ?_⟩
      have hyx : kle y x := kle_iff.2 fun q => hlt (hc2.2 q)
      rcases List.mem_append.1 hz with hz | hz
      · exact kle_trans ((List.pairwise_append.1 h4).2.2 z hz y (by simp)) hyx
      · simp at hz; subst hz; exact hyx
theorem srt_mid {A B : List api_Edit} {x : api_Edit} (h : Srt (A ++ B)) (h1 : ∀ y ∈ A, kle y x) (h2 : ∀ y ∈ B, klt x y) : Srt (A ++ x :: B) := by
  obtain ⟨q1, q2, q3⟩ := List.pairwise_append.1 h
  refine List.pairwise_append.2 ⟨q1, List.pairwise_cons.2 ⟨fun y hy => klt_kle (h2 y hy), q2⟩, fun a ha b hb => ?_⟩
  rcases List.mem_cons.1 hb with rfl | hb
  · exact h1 a ha
  · exact q3 a ha b hb
theorem ins_l0 (F : Nat) (hF : 5 < F) (a0 : List api_Edit) (a1 a2 : Int) (P S : List api_Edit) (hP : (a1 : Int) = P.length) : ∀ (T C : List api_Edit) (n : Nat), T.length < n → (P ++ C ++ (T ++ S)).length ≤ 1000000 → C.length < F → T.length + C.length < F → (a2 : Int) = ((P.length + C.length + T.length : Nat) : Int) →
    Srt C → ∃ D, slices_insertionSortCmpFunc_api_Edit_l0 F a0 a1 a2 n (P ++ C ++ (T ++ S)) ((P.length + C.length : Nat) : Int) = some (P ++ D ++ S) ∧ Srt D ∧ D.Perm (C ++ T) := by
  intro T
  induction T with
  | nil =>
    intro C n h1 h2 h3 h4 h5 h6
    obtain ⟨n, rfl⟩ : ∃ k, n = k + 1 := ⟨n - 1, by omega⟩
    refine ⟨C, ?_, h6, by simp⟩
    rw [slices_insertionSortCmpFunc_api_Edit_l0, if_neg (by rw [h5]; simp)]
    simp
  | cons x T ih =>
    intro C n h1 h2 h3 h4 h5 h6
    obtain ⟨n, rfl⟩ : ∃ k, n = k + 1 := ⟨n - 1, by simp at h1; omega⟩
    simp only [List.length_cons, List.length_append] at h1 h2 h4 h5
    rw [slices_insertionSortCmpFunc_api_Edit_l0, if_pos (by rw [h5]; omega)]
    obtain ⟨D1, D2, q1, q2, q3, q4⟩ := ins_l1 F hF a0 a1 a2 P (T ++ S) x ((P.length + C.length : Nat) : Int) hP C.length C [] F rfl h3 (by simp; omega) h6 (by simp)
    simp only [List.nil_append, List.append_nil] at q2
    rw [show P ++ C ++ (x :: T ++ S) = P ++ C ++ x :: (T ++ S) by simp, q2]
    simp only [Option.bind_some]
    have e1 : w64 (((P.length + C.length : Nat) : Int) + 1) = ((P.length + (D1 ++ x :: D2).length : Nat) : Int) := by
      rw [w64_eq (by omega) (by omega), q1]; simp; omega
    rw [e1]
    have hs : Srt (D1 ++ x :: D2) := srt_mid (by rw [← q1]; exact h6) q4 q3
    have hlen : (D1 ++ x :: D2).length = C.length + 1 := by rw [q1]; simp; omega
    obtain ⟨D, r1, r2, r3⟩ := ih (D1 ++ x :: D2) n (by omega) (by rw [List.length_append, List.length_append, hlen, List.length_append]; omega) (by rw [hlen]; omega) (by rw [hlen]; omega) (by rw [hlen, h5]; omega) hs
    refine ⟨D, ?_, r2, ?_⟩
    · rw [← r1]; simp
    · refine r3.trans ?_
      rw [q1]
      have : (D1 ++ x :: D2).Perm (D1 ++ D2 ++ [x]) := by
        rw [List.append_assoc]
        exact List.Perm.append_left D1 (List.perm_append_singleton x D2).symm
      have h2 := this.append_right T
      simpa using h2
theorem ins_eq (F : Nat) (P A S : List api_Edit) (hl : (P ++ A ++ S).length ≤ 1000000) (hF : A.length + 10 < F) :
    ∃ D, slices_insertionSortCmpFunc_api_Edit F (P ++ A ++ S) (P.length : Int) ((P.length + A.length : Nat) : Int) = some (P ++ D ++ S) ∧ Srt D ∧ D.Perm A := by
  unfold slices_insertionSortCmpFunc_api_Edit
  simp only [List.length_append] at hl
  cases A with
  | nil =>
    obtain ⟨F, rfl⟩ : ∃ k, F = k + 1 := ⟨F - 1, by omega⟩
    refine ⟨[], ?_, List.Pairwise.nil, List.Perm.nil⟩
    have e1 : w64 ((P.length : Int) + 1) = (P.length : Int) + 1 := w64_eq (by omega) (by omega)
    rw [e1, slices_insertionSortCmpFunc_api_Edit_l0, if_neg (by simp; omega)]
    simp
  | cons x A =>
    simp only [List.length_cons] at hl hF
    have e1 : w64 ((P.length : Int) + 1) = ((P.length + [x].length : Nat) : Int) := by rw [w64_eq (by omega) (by omega)]; simp
    obtain ⟨D, r1, r2, r3⟩ := ins_l0 F (by omega) (P ++ x :: A ++ S) (P.length : Int) ((P.length + (x :: A).length : Nat) : Int) P S rfl A [x] F (by omega) (by simp; omega) (by simp; omega) (by simp; omega) (by simp; omega) (List.pairwise_singleton _ _)
    refine ⟨D, ?_, r2, by simpa using r3⟩
    rw [e1, show P ++ x :: A ++ S = P ++ [x] ++ (A ++ S) by simp] at *
    rw [r1]; rfl
end Go.Proofs.Ytdajldmgdpggkaa.M
