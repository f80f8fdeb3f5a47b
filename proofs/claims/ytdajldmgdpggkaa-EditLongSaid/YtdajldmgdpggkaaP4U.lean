/- The library's stable sort, at edits, plainly: two rows in order made one. -/
import Derived.Test.YtdajldmgdpggkaaP4T
namespace Go.Proofs.Ytdajldmgdpggkaa.M
open Go Am Sy
set_option linter.unusedVariables false
set_option linter.unusedSimpArgs false

theorem srt_get {B : List api_Edit} (h : Srt B) {i j : Nat} {x y : api_Edit} (hx : B[i]? = some x) (hy : B[j]? = some y) (hij : i ≤ j) : kle x y := by
  obtain ⟨h1, h2⟩ := List.getElem?_eq_some_iff.1 hx
  obtain ⟨h3, h4⟩ := List.getElem?_eq_some_iff.1 hy
  rcases Nat.lt_or_ge i j with q | q
  · have := List.pairwise_iff_getElem.1 h i j h1 h3 q
    rw [h2, h4] at this; exact this
  · have : i = j := by omega
    subst this
    rw [h2] at h4; subst h4; exact kle_refl _
theorem klt_of_kle_klt {x y z : api_Edit} (h : kle x y) (k : klt y z) : klt x z := by unfold kle klt at *; omega
theorem klt_of_klt_kle {x y z : api_Edit} (h : klt x y) (k : kle y z) : klt x z := by unfold kle klt at *; omega
theorem get_off {α : Type} {l : List α} (Q B R : List α) (k : Nat) (h : l = Q ++ B ++ R) (hk : k < B.length) {i : Nat} (hi : i = Q.length + k) : l[i]? = some B[k] := by
  subst h; subst hi
  rw [List.getElem?_append_left (by simp; omega), List.getElem?_append_right (by omega), Nat.add_sub_cancel_left, List.getElem?_eq_getElem hk]
/-- One ahead of many: where it goes. -/
theorem sl0 (F : Nat) (hF : 5 < F) (rc) (a2 a3 : Int) (P B S : List api_Edit) (x : api_Edit) (hB : Srt B) (hl : (P ++ [x] ++ B ++ S).length ≤ 1000000) : ∀ (d i j n : Nat), j - i = d → i ≤ j → j ≤ B.length → d < n →
    (∀ k y, B[k]? = some y → k < i → klt y x) → (∀ k y, B[k]? = some y → j ≤ k → kle x y) →
    ∃ r : Nat, slices_symMergeCmpFunc_api_Edit_l0 F rc (P ++ [x] ++ B ++ S) (P.length : Int) a2 a3 n ((P.length + 1 + i : Nat) : Int) ((P.length + 1 + j : Nat) : Int) = some ((P.length + 1 + r : Nat) : Int) ∧ r ≤ B.length ∧
      (∀ k y, B[k]? = some y → k < r → klt y x) ∧ (∀ k y, B[k]? = some y → r ≤ k → kle x y) := by
  intro d
  induction d using Nat.strongRecOn with
  | ind d ih =>
    intro i j n h1 h2 h3 h4 h5 h6
    obtain ⟨n, rfl⟩ : ∃ k, n = k + 1 := ⟨n - 1, by omega⟩
    simp only [List.length_append, List.length_cons, List.length_nil] at hl
    rw [slices_symMergeCmpFunc_api_Edit_l0]
    by_cases e : i = j
    · subst e
      rw [if_neg (by omega)]
      exact ⟨i, rfl, h3, h5, h6⟩
    · rw [if_pos (by omega)]
      obtain ⟨c, hc⟩ : ∃ c, c = (i + j) / 2 := ⟨_, rfl⟩
      have hh : w64 (ishr .u64 (IntKind.wrap .u64 (w64 (((P.length + 1 + i : Nat) : Int) + ((P.length + 1 + j : Nat) : Int)))) 1) = ((P.length + 1 + c : Nat) : Int) := by
        rw [half_eq _ _ (by omega)]; congr 1; omega
      have hcB : c < B.length := by omega
      have g1 : (P ++ [x] ++ B ++ S)[P.length + 1 + c]? = some B[c] := get_off (P ++ [x]) B S c rfl hcB (by simp)
      have g2 : (P ++ [x] ++ B ++ S)[P.length]? = some x := get_at P (B ++ S) x (by simp) rfl
      have hln : (P ++ [x] ++ B ++ S).length = P.length + 1 + B.length + S.length := by simp <;> omega
      have c1 := inb (n := P.length + 1 + c) (l := P ++ [x] ++ B ++ S) (by omega)
      have c2 := inb (n := P.length) (l := P ++ [x] ++ B ++ S) (by omega)
      obtain ⟨v, hv, hv2⟩ := cmp_eq F B[c] x hF
      simp only [hh, if_pos c1, if_pos c2, get_nat, g1, g2, Option.bind_some, hv]
      have hg : B[c]? = some B[c] := List.getElem?_eq_getElem hcB
      by_cases hlt : v < 0
      · rw [if_pos hlt]
        have e1 : w64 (((P.length + 1 + c : Nat) : Int) + 1) = ((P.length + 1 + (c + 1) : Nat) : Int) := by rw [w64_eq (by omega) (by omega)]; omega
        rw [e1]
        exact ih (j - (c + 1)) (by omega) (c + 1) j n rfl (by omega) h3 (by omega) (fun k y hk hkc => klt_of_kle_klt (srt_get hB hk hg (by omega)) (hv2.1 hlt)) h6
      · rw [if_neg hlt]
        have hxy : kle x B[c] := kle_iff.2 fun q => hlt (hv2.2 q)
        exact ih (c - i) (by omega) i c n rfl (by omega) (by omega) (by omega) h5 (fun k y hk hkc => kle_trans hxy (srt_get hB hg hk hkc))
theorem sl1 (F : Nat) (rc) (a0 : List api_Edit) (a1 a2 a3 : Int) (x : api_Edit) (T : List api_Edit) : ∀ (B1 Q : List api_Edit) (n : Nat), B1.length < n → (Q ++ x :: (B1 ++ T)).length ≤ 1000000 →
    slices_symMergeCmpFunc_api_Edit_l1 F rc a0 a1 a2 a3 n (Q ++ x :: (B1 ++ T)) ((Q.length + B1.length + 1 : Nat) : Int) (Q.length : Int) = some (Q ++ B1 ++ x :: T) := by
  intro B1
  induction B1 with
  | nil =>
    intro Q n h1 h2
    obtain ⟨n, rfl⟩ : ∃ k, n = k + 1 := ⟨n - 1, by omega⟩
    simp only [List.length_append, List.length_cons, List.length_nil] at h2
    have e1 : w64 (((Q.length + ([] : List api_Edit).length + 1 : Nat) : Int) - 1) = (Q.length : Int) := by rw [w64_eq (by simp <;> omega) (by simp <;> omega)]; simp <;> omega
    rw [slices_symMergeCmpFunc_api_Edit_l1, e1, if_neg (by omega)]
    simp
  | cons y B1 ih =>
    intro Q n h1 h2
    obtain ⟨n, rfl⟩ : ∃ k, n = k + 1 := ⟨n - 1, by simp at h1; omega⟩
    simp only [List.length_append, List.length_cons, List.length_nil] at h1 h2
    have e1 : w64 (((Q.length + (y :: B1).length + 1 : Nat) : Int) - 1) = ((Q.length + B1.length + 1 : Nat) : Int) := by rw [w64_eq (by simp <;> omega) (by simp <;> omega)]; simp <;> omega
    have e2 : w64 ((Q.length : Int) + 1) = ((Q.length + 1 : Nat) : Int) := by rw [w64_eq (by omega) (by omega)]; omega
    have hl : (Q ++ x :: (y :: B1 ++ T)).length = Q.length + B1.length + T.length + 2 := by simp; omega
    have g1 : (Q ++ x :: (y :: B1 ++ T))[Q.length]? = some x := get_at Q (y :: B1 ++ T) x rfl rfl
    have g2 : (Q ++ x :: (y :: B1 ++ T))[Q.length + 1]? = some y := get_at (Q ++ [x]) (B1 ++ T) y (by simp) (by simp)
    have s1 : (Q ++ x :: (y :: B1 ++ T)).set Q.length y = Q ++ y :: (y :: B1 ++ T) := set_at Q (y :: B1 ++ T) x y rfl rfl
    have g3 : (Q ++ y :: (y :: B1 ++ T))[Q.length + 1]? = some y := get_at (Q ++ [y]) (B1 ++ T) y (by simp) (by simp)
    have s2 : (Q ++ y :: (y :: B1 ++ T)).set (Q.length + 1) x = (Q ++ [y]) ++ x :: (B1 ++ T) := set_at (Q ++ [y]) (B1 ++ T) y x (by simp) (by simp)
    have c1 := inb (n := Q.length) (l := Q ++ x :: (y :: B1 ++ T)) (by omega)
    have c2 := inb (n := Q.length + 1) (l := Q ++ x :: (y :: B1 ++ T)) (by omega)
    have c3 := inb (n := Q.length + 1) (l := Q ++ y :: (y :: B1 ++ T)) (by simp)
    rw [slices_symMergeCmpFunc_api_Edit_l1, e1, if_pos (by omega)]
    simp only [e2, if_pos c1, if_pos c2, get_nat, g1, g2, Option.bind_some, Int.toNat_natCast, s1, if_pos c3, g3, s2]
    have := ih (Q ++ [y]) n (by omega) (by simp; omega)
    rw [show ((Q ++ [y]).length + B1.length + 1 : Nat) = Q.length + (y :: B1).length + 1 by simp; omega, show ((Q ++ [y]).length : Int) = ((Q.length + 1 : Nat) : Int) by simp] at this
    rw [this]
    simp
theorem sl2 (F : Nat) (hF : 5 < F) (rc) (a3 : Int) (P A S : List api_Edit) (x : api_Edit) (hA : Srt A) (hl : (P ++ A ++ x :: S).length ≤ 1000000) : ∀ (d i j n : Nat), j - i = d → i ≤ j → j ≤ A.length → d < n →
    (∀ k y, A[k]? = some y → k < i → kle y x) → (∀ k y, A[k]? = some y → j ≤ k → klt x y) →
    ∃ r : Nat, slices_symMergeCmpFunc_api_Edit_l2 F rc (P ++ A ++ x :: S) (P.length : Int) ((P.length + A.length : Nat) : Int) a3 n ((P.length + i : Nat) : Int) ((P.length + j : Nat) : Int) = some ((P.length + r : Nat) : Int) ∧ r ≤ A.length ∧
      (∀ k y, A[k]? = some y → k < r → kle y x) ∧ (∀ k y, A[k]? = some y → r ≤ k → klt x y) := by
  intro d
  induction d using Nat.strongRecOn with
  | ind d ih =>
    intro i j n h1 h2 h3 h4 h5 h6
    obtain ⟨n, rfl⟩ : ∃ k, n = k + 1 := ⟨n - 1, by omega⟩
    simp only [List.length_append, List.length_cons] at hl
    rw [slices_symMergeCmpFunc_api_Edit_l2]
    by_cases e : i = j
    · subst e
      rw [if_neg (by omega)]
      exact ⟨i, rfl, h3, h5, h6⟩
    · rw [if_pos (by omega)]
      obtain ⟨c, hc⟩ : ∃ c, c = (i + j) / 2 := ⟨_, rfl⟩
      have hh : w64 (ishr .u64 (IntKind.wrap .u64 (w64 (((P.length + i : Nat) : Int) + ((P.length + j : Nat) : Int)))) 1) = ((P.length + c : Nat) : Int) := by
        rw [half_eq _ _ (by omega)]; congr 1; omega
      have hcA : c < A.length := by omega
      have g1 : (P ++ A ++ x :: S)[P.length + c]? = some A[c] := get_off P A (x :: S) c rfl hcA rfl
      have g2 : (P ++ A ++ x :: S)[P.length + A.length]? = some x := get_at (P ++ A) S x rfl (by simp)
      have hln : (P ++ A ++ x :: S).length = P.length + A.length + S.length + 1 := by simp; omega
      have c1 := inb (n := P.length + c) (l := P ++ A ++ x :: S) (by omega)
      have c2 := inb (n := P.length + A.length) (l := P ++ A ++ x :: S) (by omega)
      obtain ⟨v, hv, hv2⟩ := cmp_eq F x A[c] hF
      simp only [hh, if_pos c1, if_pos c2, get_nat, g1, g2, Option.bind_some, hv]
      have hg : A[c]? = some A[c] := List.getElem?_eq_getElem hcA
      by_cases hlt : v < 0
      · rw [if_pos hlt]
        exact ih (c - i) (by omega) i c n rfl (by omega) (by omega) (by omega) h5 (fun k y hk hkc => klt_of_klt_kle (hv2.1 hlt) (srt_get hA hg hk hkc))
      · rw [if_neg hlt]
        have hxy : kle A[c] x := kle_iff.2 fun q => hlt (hv2.2 q)
        have e1 : w64 (((P.length + c : Nat) : Int) + 1) = ((P.length + (c + 1) : Nat) : Int) := by rw [w64_eq (by omega) (by omega)]; omega
        rw [e1]
        exact ih (j - (c + 1)) (by omega) (c + 1) j n rfl (by omega) h3 (by omega) (fun k y hk hkc => kle_trans (srt_get hA hk hg (by omega)) hxy) h6
theorem sl3 (F : Nat) (rc) (a0 : List api_Edit) (a1 a2 a3 : Int) (x : api_Edit) (Q : List api_Edit) : ∀ (d : Nat) (A2 T : List api_Edit) (n : Nat), A2.length = d → d < n → (Q ++ A2 ++ x :: T).length ≤ 1000000 →
    slices_symMergeCmpFunc_api_Edit_l3 F rc a0 a1 a2 a3 n (Q ++ A2 ++ x :: T) (Q.length : Int) ((Q.length + A2.length : Nat) : Int) = some (Q ++ x :: (A2 ++ T)) := by
  intro d
  induction d with
  | zero =>
    intro A2 T n h1 h2 h3
    obtain ⟨n, rfl⟩ : ∃ k, n = k + 1 := ⟨n - 1, by omega⟩
    have : A2 = [] := List.eq_nil_of_length_eq_zero h1
    subst this
    rw [slices_symMergeCmpFunc_api_Edit_l3, if_neg (by simp)]
    simp
  | succ d ih =>
    intro A2 T n h1 h2 h3
    obtain ⟨n, rfl⟩ : ∃ k, n = k + 1 := ⟨n - 1, by omega⟩
    obtain ⟨C, y, rfl⟩ : ∃ C y, A2 = C ++ [y] := by
      rcases List.eq_nil_or_concat A2 with rfl | ⟨q, y, rfl⟩
      · simp at h1
      · exact ⟨q, y, List.concat_eq_append⟩
    simp only [List.length_append, List.length_cons, List.length_nil] at h1 h3
    have hl : (Q ++ (C ++ [y]) ++ x :: T).length = Q.length + C.length + T.length + 2 := by simp; omega
    have hk : Q.length + (C ++ [y]).length = Q.length + C.length + 1 := by simp; omega
    have e1 : w64 (((Q.length + C.length + 1 : Nat) : Int) - 1) = ((Q.length + C.length : Nat) : Int) := by rw [w64_eq (by omega) (by omega)]; omega
    have g1 : (Q ++ (C ++ [y]) ++ x :: T)[Q.length + C.length + 1]? = some x := get_at (Q ++ C ++ [y]) T x (by simp) (by simp; omega)
    have g2 : (Q ++ (C ++ [y]) ++ x :: T)[Q.length + C.length]? = some y := get_at (Q ++ C) (x :: T) y (by simp) (by simp)
    have s1 : (Q ++ (C ++ [y]) ++ x :: T).set (Q.length + C.length + 1) y = Q ++ C ++ [y] ++ y :: T := set_at (Q ++ C ++ [y]) T x y (by simp) (by simp; omega)
    have g3 : (Q ++ C ++ [y] ++ y :: T)[Q.length + C.length]? = some y := get_at (Q ++ C) (y :: T) y (by simp) (by simp)
    have s2 : (Q ++ C ++ [y] ++ y :: T).set (Q.length + C.length) x = Q ++ C ++ x :: (y :: T) := by
      rw [set_at (Q ++ C) (y :: T) y x (by simp) (by simp)]
    have c1 := inb (n := Q.length + C.length + 1) (l := Q ++ (C ++ [y]) ++ x :: T) (by omega)
    have c2 := inb (n := Q.length + C.length) (l := Q ++ (C ++ [y]) ++ x :: T) (by omega)
    have c3 := inb (n := Q.length + C.length) (l := Q ++ C ++ [y] ++ y :: T) (by simp <;> omega)
    rw [slices_symMergeCmpFunc_api_Edit_l3, hk, if_pos (by omega)]
    simp only [e1, if_pos c1, if_pos c2, get_nat, g1, g2, Option.bind_some, Int.toNat_natCast, s1, if_pos c3, g3, s2]
    rw [ih C (y :: T) n (by omega) (by omega) (by simp; omega)]
    simp
/-- The search for where both are parted. -/
theorem sl4 (F : Nat) (hF : 5 < F) (rc) (l : List api_Edit) (a1 a2 a3 : Int) (hl : l.length ≤ 1000000) (mid nn p lo hi : Nat) (hp : hi ≤ p + 1) (hlo : p < lo + l.length) (hhl : hi ≤ l.length) : ∀ (d s r n : Nat), r - s = d → lo ≤ s → s ≤ r → r ≤ hi → d < n →
    (s = lo ∨ ∃ y z, l[s - 1]? = some y ∧ l[p - (s - 1)]? = some z ∧ kle y z ∧ 0 < s) → (r = hi ∨ ∃ y z, l[r]? = some y ∧ l[p - r]? = some z ∧ klt z y) →
    ∃ t : Nat, slices_symMergeCmpFunc_api_Edit_l4 F rc l a1 a2 a3 n (mid : Int) (nn : Int) (s : Int) (r : Int) (p : Int) = some ((mid : Int), (nn : Int), (t : Int)) ∧ lo ≤ t ∧ t ≤ hi ∧
      (t = lo ∨ ∃ y z, l[t - 1]? = some y ∧ l[p - (t - 1)]? = some z ∧ kle y z ∧ 0 < t) ∧ (t = hi ∨ ∃ y z, l[t]? = some y ∧ l[p - t]? = some z ∧ klt z y) := by
  intro d
  induction d using Nat.strongRecOn with
  | ind d ih =>
    intro s r n h1 h2 h3 h4 h5 h6 h7
    obtain ⟨n, rfl⟩ : ∃ k, n = k + 1 := ⟨n - 1, by omega⟩
    rw [slices_symMergeCmpFunc_api_Edit_l4]
    by_cases e : s = r
    · subst e
      rw [if_neg (by omega)]
      exact ⟨s, rfl, h2, h4, h6, h7⟩
    · rw [if_pos (by omega)]
      obtain ⟨c, hc⟩ : ∃ c, c = (s + r) / 2 := ⟨_, rfl⟩
      have hh : w64 (ishr .u64 (IntKind.wrap .u64 (w64 ((s : Int) + (r : Int)))) 1) = (c : Int) := by rw [half_eq _ _ (by omega), hc]
      have hcl : c < l.length := by omega
      have hpl : p - c < l.length := by omega
      have e1 : w64 ((p : Int) - (c : Int)) = ((p - c : Nat) : Int) := w_sub _ _ (by omega) (by omega)
      have c1 := inb (n := p - c) (l := l) hpl
      have c2 := inb (n := c) (l := l) hcl
      have g1 : l[p - c]? = some l[p - c] := List.getElem?_eq_getElem hpl
      have g2 : l[c]? = some l[c] := List.getElem?_eq_getElem hcl
      obtain ⟨v, hv, hv2⟩ := cmp_eq F l[p - c] l[c] hF
      simp only [hh, e1, if_pos c1, if_pos c2, get_nat, g1, g2, Option.bind_some, hv]
      by_cases hlt : v < 0
      · rw [if_pos hlt]
        exact ih (c - s) (by omega) s c n rfl h2 (by omega) (by omega) (by omega) h6 (.inr ⟨_, _, g2, g1, hv2.1 hlt⟩)
      · rw [if_neg hlt]
        have hxy : kle l[c] l[p - c] := kle_iff.2 fun q => hlt (hv2.2 q)
        have e2 : w64 ((c : Int) + 1) = ((c + 1 : Nat) : Int) := by rw [w64_eq (by omega) (by omega)]; omega
        rw [e2]
        exact ih (r - (c + 1)) (by omega) (c + 1) r n rfl (by omega) (by omega) h4 (by omega) (.inr ⟨_, _, g2, g1, hxy, by omega⟩) h7
theorem srt_take {A : List api_Edit} (h : Srt A) (k : Nat) : Srt (A.take k) := h.sublist (List.take_sublist _ _)
theorem srt_drop {A : List api_Edit} (h : Srt A) (k : Nat) : Srt (A.drop k) := h.sublist (List.drop_sublist _ _)
/-- What merging shorter rows does. -/
def RecOk (F d : Nat) (rc : List api_Edit → Int → Int → Int → Option (List api_Edit)) : Prop :=
  ∀ (P A B S : List api_Edit), A.length + B.length < d → 0 < A.length → 0 < B.length → (P ++ A ++ B ++ S).length ≤ 1000000 → Srt A → Srt B →
    ∃ C, rc (P ++ A ++ B ++ S) (P.length : Int) ((P.length + A.length : Nat) : Int) ((P.length + A.length + B.length : Nat) : Int) = some (P ++ C ++ S) ∧ Srt C ∧ C.Perm (A ++ B)
theorem sym_rot (F : Nat) (P A1 A2 B1 B2 S : List api_Edit) (hl : (P ++ (A1 ++ A2) ++ (B1 ++ B2) ++ S).length ≤ 1000000) (hF : A2.length + B1.length + 10 < F) {t m en : Nat} (ht : t = P.length + A1.length) (hm : m = t + A2.length) (he : en = m + B1.length) :
    (if (t : Int) < (m : Int) then (if (m : Int) < (en : Int) then (slices_rotateCmpFunc_api_Edit F (P ++ (A1 ++ A2) ++ (B1 ++ B2) ++ S) (t : Int) (m : Int) (en : Int)).bind fun r => some r else some (P ++ (A1 ++ A2) ++ (B1 ++ B2) ++ S)) else some (P ++ (A1 ++ A2) ++ (B1 ++ B2) ++ S) : Option (List api_Edit)) = some (P ++ (A1 ++ B1) ++ (A2 ++ B2) ++ S) := by
  simp only [List.length_append] at hl
  by_cases k3 : t < m
  · rw [if_pos (by omega)]
    by_cases k4 : m < en
    · rw [if_pos (by omega), show P ++ (A1 ++ A2) ++ (B1 ++ B2) ++ S = (P ++ A1) ++ A2 ++ B1 ++ (B2 ++ S) by simp, rot_eq F (P ++ A1) A2 B1 (B2 ++ S) (by omega) (by omega) (by simp; omega) (by omega) (by simp; omega) (by simp; omega) (by simp; omega)]
      simp
    · rw [if_neg (by omega)]
      have : B1 = [] := List.eq_nil_of_length_eq_zero (by omega)
      subst this
      simp
  · rw [if_neg (by omega)]
    have : A2 = [] := List.eq_nil_of_length_eq_zero (by omega)
    subst this
    simp
theorem sym_part (F d : Nat) (rc) (hrc : RecOk F d rc) (P X Y S : List api_Edit) (hd : X.length + Y.length < d) (hl : (P ++ (X ++ Y) ++ S).length ≤ 1000000) (hX : Srt X) (hY : Srt Y) {a t e : Nat} (ha : a = P.length) (ht : t = a + X.length) (he : e = t + Y.length) :
    ∃ C, (if (a : Int) < (t : Int) then (if (t : Int) < (e : Int) then (rc (P ++ (X ++ Y) ++ S) (a : Int) (t : Int) (e : Int)).bind fun r => some r else some (P ++ (X ++ Y) ++ S)) else some (P ++ (X ++ Y) ++ S) : Option (List api_Edit)) = some (P ++ C ++ S) ∧ Srt C ∧ C.Perm (X ++ Y) := by
  simp only [List.length_append] at hl
  by_cases k3 : a < t
  · rw [if_pos (by omega)]
    by_cases k4 : t < e
    · rw [if_pos (by omega)]
      obtain ⟨C, u1, u2, u3⟩ := hrc P X Y S hd (by omega) (by omega) (by simp; omega) hX hY
      rw [← ha, ← ht, ← he] at u1
      refine ⟨C, ?_, u2, u3⟩
      rw [show P ++ (X ++ Y) ++ S = P ++ X ++ Y ++ S by simp, u1]
      simp
    · rw [if_neg (by omega)]
      have : Y = [] := List.eq_nil_of_length_eq_zero (by omega)
      subst this
      exact ⟨X, by simp, hX, by simp⟩
  · rw [if_neg (by omega)]
    have : X = [] := List.eq_nil_of_length_eq_zero (by omega)
    subst this
    exact ⟨Y, by simp, hY, by simp⟩
theorem cross {X Y : List api_Edit} (hX : Srt X) (hY : Srt Y) (h : ∀ (h1 : 0 < X.length) (h2 : 0 < Y.length), kle (X[X.length - 1]'(by omega)) Y[0]) : ∀ y ∈ X, ∀ z ∈ Y, kle y z := by
  intro y hy z hz
  have n1 : 0 < X.length := List.length_pos_of_mem hy
  have n2 : 0 < Y.length := List.length_pos_of_mem hz
  obtain ⟨i, hi⟩ := List.getElem?_of_mem hy
  obtain ⟨j, hj⟩ := List.getElem?_of_mem hz
  have hi2 := (List.getElem?_eq_some_iff.1 hi).1
  exact kle_trans (srt_get hX hi (List.getElem?_eq_getElem (by omega)) (by omega)) (kle_trans (h n1 n2) (srt_get hY (List.getElem?_eq_getElem n2) hj (by omega)))
theorem sym_perm (A1 A2 B1 B2 : List api_Edit) : (A1 ++ B1 ++ (A2 ++ B2)).Perm (A1 ++ A2 ++ (B1 ++ B2)) := by
  simp only [List.append_assoc]
  refine List.Perm.append_left A1 ?_
  rw [← List.append_assoc, ← List.append_assoc]
  exact List.Perm.append_right B2 List.perm_append_comm
/-- Where the search begins and ends. -/
theorem sym_ends {a m b mid : Nat} (hmid : mid = (a + b) / 2) (h1 : a < m) (h2 : m < b) : ∃ lo hi : Nat, (if (mid : Int) < (m : Int) then some (((mid + m : Nat) : Int) - (b : Int), (mid : Int)) else some ((a : Int), (m : Int)) : Option (Int × Int)) = some ((lo : Int), (hi : Int)) ∧
    a ≤ lo ∧ lo ≤ hi ∧ hi ≤ m ∧ mid + m ≤ lo + b ∧ hi ≤ mid ∧ ((lo = a ∧ hi = m) ∨ (lo + b = mid + m ∧ hi = mid)) := by
  by_cases k3 : mid < m
  · exact ⟨mid + m - b, mid, by rw [if_pos (by omega)]; congr 2; omega, by omega, by omega, by omega, by omega, by omega, .inr ⟨by omega, rfl⟩⟩
  · exact ⟨a, m, by rw [if_neg (by omega)], by omega, by omega, by omega, by omega, by omega, .inl ⟨rfl, rfl⟩⟩
/-- The four parts. -/
theorem sym_cut (P A B S : List api_Edit) (hA : Srt A) (hB : Srt B) {a m b mid lo hi t en p : Nat} (ha : a = P.length) (hm : m = a + A.length) (hb : b = m + B.length) (hmid : mid = (a + b) / 2) (h1 : a < m) (h2 : m < b)
    (q1 : a ≤ lo) (q3 : hi ≤ m) (q4 : mid + m ≤ lo + b) (q5 : hi ≤ mid) (q6 : (lo = a ∧ hi = m) ∨ (lo + b = mid + m ∧ hi = mid)) (hp : p = mid + m - 1) (r2 : lo ≤ t) (r3 : t ≤ hi) (hen : en = mid + m - t)
    (r4 : t = lo ∨ ∃ y z, (P ++ A ++ B ++ S)[t - 1]? = some y ∧ (P ++ A ++ B ++ S)[p - (t - 1)]? = some z ∧ kle y z ∧ 0 < t) (r5 : t = hi ∨ ∃ y z, (P ++ A ++ B ++ S)[t]? = some y ∧ (P ++ A ++ B ++ S)[p - t]? = some z ∧ klt z y) :
    ∃ A1 A2 B1 B2, A = A1 ++ A2 ∧ B = B1 ++ B2 ∧ t = a + A1.length ∧ m = t + A2.length ∧ en = m + B1.length ∧ mid = t + B1.length ∧ b = en + B2.length ∧ (∀ y ∈ A1, ∀ z ∈ B2, kle y z) ∧ (∀ y ∈ B1, ∀ z ∈ A2, kle y z) := by
  obtain ⟨A1, A2, rfl, hA1⟩ : ∃ A1 A2, A = A1 ++ A2 ∧ A1.length = t - a := ⟨A.take (t - a), A.drop (t - a), (List.take_append_drop _ _).symm, by simp; omega⟩
  obtain ⟨B1, B2, rfl, hB1⟩ : ∃ B1 B2, B = B1 ++ B2 ∧ B1.length = en - m := ⟨B.take (en - m), B.drop (en - m), (List.take_append_drop _ _).symm, by simp; omega⟩
  simp only [List.length_append] at hm hb
  obtain ⟨sA1, sA2, sA⟩ := List.pairwise_append.1 hA
  obtain ⟨sB1, sB2, sB⟩ := List.pairwise_append.1 hB
  refine ⟨A1, A2, B1, B2, rfl, rfl, by omega, by omega, by omega, by omega, by omega, cross sA1 sB2 fun n1 n2 => ?_, cross sB1 sA2 fun n1 n2 => ?_⟩
  · rcases r4 with r4 | ⟨y0, z0, g1, g2, g3, g4⟩
    · exfalso; omega
    · have g1' : (P ++ (A1 ++ A2) ++ (B1 ++ B2) ++ S)[t - 1]? = some A1[A1.length - 1] := get_off P A1 (A2 ++ (B1 ++ B2) ++ S) (A1.length - 1) (by simp) (by omega) (by omega)
      have g2' : (P ++ (A1 ++ A2) ++ (B1 ++ B2) ++ S)[p - (t - 1)]? = some B2[0] := get_off (P ++ A1 ++ A2 ++ B1) B2 S 0 (by simp) n2 (by simp only [List.length_append]; omega)
      rw [g1'] at g1; injection g1 with g1; subst g1
      rw [g2'] at g2; injection g2 with g2; subst g2
      exact g3
  · rcases r5 with r5 | ⟨y0, z0, g1, g2, g3⟩
    · exfalso; omega
    · have g1' : (P ++ (A1 ++ A2) ++ (B1 ++ B2) ++ S)[t]? = some A2[0] := get_off (P ++ A1) A2 ((B1 ++ B2) ++ S) 0 (by simp) n2 (by simp only [List.length_append]; omega)
      have g2' : (P ++ (A1 ++ A2) ++ (B1 ++ B2) ++ S)[p - t]? = some B1[B1.length - 1] := get_off (P ++ A1 ++ A2) B1 (B2 ++ S) (B1.length - 1) (by simp) (by omega) (by simp only [List.length_append]; omega)
      rw [g1'] at g1; injection g1 with g1; subst g1
      rw [g2'] at g2; injection g2 with g2; subst g2
      exact klt_kle g3
/-- Both are more than one. -/
theorem sym3 (F d : Nat) (rc) (hrc : RecOk F d rc) (P A B S : List api_Edit) (hd : A.length + B.length = d) (hF : d + 20 < F) (h3 : 1 < A.length) (h4 : 1 < B.length) (hl : (P ++ A ++ B ++ S).length ≤ 1000000) (hA : Srt A) (hB : Srt B) {a m b : Nat} (ha : a = P.length) (hm : m = a + A.length) (hb : b = m + B.length)
    (k1 : ¬ w64 ((m : Int) - (a : Int)) = 1) (k2 : ¬ w64 ((b : Int) - (m : Int)) = 1) :
    ∃ C, slices_symMergeCmpFunc_api_Edit_b F rc (P ++ A ++ B ++ S) (a : Int) (m : Int) (b : Int) = some (P ++ C ++ S) ∧ Srt C ∧ C.Perm (A ++ B) := by
  unfold slices_symMergeCmpFunc_api_Edit_b
  rw [if_neg k1, if_neg k2]
  clear k1 k2
  have hln : b + S.length ≤ 1000000 := by simp only [List.length_append] at hl; omega
  have hll : (P ++ A ++ B ++ S).length = b + S.length := by simp only [List.length_append]; omega
  obtain ⟨mid, hmid⟩ : ∃ mid, mid = (a + b) / 2 := ⟨_, rfl⟩
  have w1 : w64 (ishr .u64 (IntKind.wrap .u64 (w64 ((a : Int) + (b : Int)))) 1) = (mid : Int) := by rw [half_eq _ _ (by omega), hmid]
  have w2 : w64 ((mid : Int) + (m : Int)) = ((mid + m : Nat) : Int) := w_add _ _ (by omega)
  have w3 : w64 (((mid + m : Nat) : Int) - (b : Int)) = ((mid + m : Nat) : Int) - (b : Int) := w64_eq (by omega) (by omega)
  have w4 : w64 (((mid + m : Nat) : Int) - 1) = ((mid + m - 1 : Nat) : Int) := by rw [w64_eq (by omega) (by omega)]; omega
  simp only [w1, w2, w3, w4]
  clear w1 w2 w3 w4
  obtain ⟨lo, hi, q0, q1, q2, q3, q4, q5, q6⟩ := sym_ends (m := m) hmid (by omega) (by omega)
  rw [q0]
  clear q0
  simp only [Option.bind_some]
  obtain ⟨t, r1, r2, r3, r4, r5⟩ := sl4 F (by omega) rc (P ++ A ++ B ++ S) (a : Int) (m : Int) (b : Int) (by omega) mid (mid + m) (mid + m - 1) lo hi (by omega) (by omega) (by omega) (hi - lo) lo hi F rfl (Nat.le_refl _) q2 (Nat.le_refl _) (by omega) (.inl rfl) (.inl rfl)
  rw [r1]
  clear r1
  simp only [Option.bind_some]
  obtain ⟨en, hen⟩ : ∃ en, en = mid + m - t := ⟨_, rfl⟩
  have w5 : w64 (((mid + m : Nat) : Int) - (t : Int)) = (en : Int) := by rw [w64_eq (by omega) (by omega)]; omega
  simp only [w5]
  clear w5
  obtain ⟨A1, A2, B1, B2, rfl, rfl, t1, t2, t3, t4, t5, cAB, cBA⟩ := sym_cut P A B S hA hB ha hm hb hmid (by omega) (by omega) q1 q3 q4 q5 q6 rfl r2 r3 hen r4 r5
  clear r4 r5 q6 q1 q2 q3 q4 q5 r2 r3 hen
  obtain ⟨sA1, sA2, sA⟩ := List.pairwise_append.1 hA
  obtain ⟨sB1, sB2, sB⟩ := List.pairwise_append.1 hB
  simp only [List.length_append] at hd h3 h4 hm hb
  rw [sym_rot F P A1 A2 B1 B2 S hl (by omega) (by omega) t2 t3]
  simp only [Option.bind_some]
  simp only [List.length_append] at hl
  obtain ⟨C1, p1, p2, p3⟩ := sym_part F d rc hrc P A1 B1 ((A2 ++ B2) ++ S) (by omega) (by simp only [List.length_append]; omega) sA1 sB1 ha t1 t4
  have hass : ∀ X : List api_Edit, P ++ X ++ ((A2 ++ B2) ++ S) = P ++ X ++ (A2 ++ B2) ++ S := fun X => by simp
  simp only [hass] at p1
  rw [p1]
  simp only [Option.bind_some]
  have hC1 : C1.length = A1.length + B1.length := by rw [p3.length_eq, List.length_append]
  obtain ⟨C2, v1, v2, v3⟩ := sym_part F d rc hrc (P ++ C1) A2 B2 S (by omega) (by simp only [List.length_append]; omega) sA2 sB2 (a := mid) (t := en) (e := b) (by simp only [List.length_append]; omega) (by omega) t5
  refine ⟨C1 ++ C2, by rw [← List.append_assoc P]; exact v1, List.pairwise_append.2 ⟨p2, v2, fun y hy z hz => ?_⟩, (p3.append v3).trans (sym_perm A1 A2 B1 B2)⟩
  have hy := p3.mem_iff.1 hy
  have hz := v3.mem_iff.1 hz
  rcases List.mem_append.1 hy with hy | hy <;> rcases List.mem_append.1 hz with hz | hz
  · exact sA y hy z hz
  · exact cAB y hy z hz
  · exact cBA y hy z hz
  · exact sB y hy z hz
theorem sym_eq (F : Nat) : ∀ (d : Nat) (P A B S : List api_Edit) (R : Nat), A.length + B.length = d → d < R → 0 < A.length → 0 < B.length → (P ++ A ++ B ++ S).length ≤ 1000000 → d + 20 < F → Srt A → Srt B →
    ∃ C, slices_symMergeCmpFunc_api_Edit_r F R (P ++ A ++ B ++ S) (P.length : Int) ((P.length + A.length : Nat) : Int) ((P.length + A.length + B.length : Nat) : Int) = some (P ++ C ++ S) ∧ Srt C ∧ C.Perm (A ++ B) := by
  intro d
  induction d using Nat.strongRecOn with
  | ind d ih =>
    intro P A B S R h1 h2 h3 h4 h5 h6 hA hB
    obtain ⟨R, rfl⟩ : ∃ k, R = k + 1 := ⟨R - 1, by omega⟩
    have hln := h5
    simp only [List.length_append] at hln
    show ∃ C, slices_symMergeCmpFunc_api_Edit_b F (slices_symMergeCmpFunc_api_Edit_r F R) _ _ _ _ = _ ∧ _
    have e1 : w64 (((P.length + A.length : Nat) : Int) - (P.length : Int)) = (A.length : Int) := by rw [w64_eq (by omega) (by omega)]; omega
    have e2 : w64 (((P.length + A.length + B.length : Nat) : Int) - ((P.length + A.length : Nat) : Int)) = (B.length : Int) := by rw [w64_eq (by omega) (by omega)]; omega
    by_cases k1 : A.length = 1
    · unfold slices_symMergeCmpFunc_api_Edit_b
      rw [e1, if_pos (by omega)]
      obtain ⟨x, rfl⟩ := List.length_eq_one_iff.1 k1
      obtain ⟨r, q1, q2, q3, q4⟩ := sl0 F (by omega) (slices_symMergeCmpFunc_api_Edit_r F R) ((P.length + [x].length : Nat) : Int) ((P.length + [x].length + B.length : Nat) : Int) P B S x hB h5 B.length 0 B.length F rfl (by omega) (Nat.le_refl _) (by omega) (fun k y _ hk => absurd hk (by omega)) (fun k y hk hk2 => by rw [List.getElem?_eq_none hk2] at hk; cases hk)
      rw [show ((P.length + 1 + 0 : Nat) : Int) = ((P.length + [x].length : Nat) : Int) by simp, show ((P.length + 1 + B.length : Nat) : Int) = ((P.length + [x].length + B.length : Nat) : Int) by simp] at q1
      rw [q1]
      simp only [Option.bind_some]
      have hr : (B.take r).length = r := by simp; omega
      have q5 := sl1 F (slices_symMergeCmpFunc_api_Edit_r F R) (P ++ [x] ++ B ++ S) (P.length : Int) ((P.length + [x].length : Nat) : Int) ((P.length + [x].length + B.length : Nat) : Int) x (B.drop r ++ S) (B.take r) P F (by omega) (by simp; omega)
      have hsp : P ++ [x] ++ B ++ S = P ++ x :: (B.take r ++ (B.drop r ++ S)) := by
        rw [← List.append_assoc (B.take r), List.take_append_drop]; simp
      rw [hr, show P.length + r + 1 = P.length + 1 + r by omega, ← hsp] at q5
      rw [q5]
      refine ⟨B.take r ++ x :: B.drop r, by simp, ?_, ?_⟩
      · refine List.pairwise_append.2 ⟨srt_take hB r, List.pairwise_cons.2 ⟨fun y hy => ?_, srt_drop hB r⟩, fun y hy z hz => ?_⟩
        · obtain ⟨k, hk⟩ := List.getElem?_of_mem hy
          rw [List.getElem?_drop] at hk
          exact q4 _ y hk (by omega)
        · obtain ⟨k, hk⟩ := List.getElem?_of_mem hy
          have hkr : k < r := by
            have := (List.getElem?_eq_some_iff.1 hk).1
            omega
          rw [List.getElem?_take_of_lt hkr] at hk
          have hyx := klt_kle (q3 k y hk hkr)
          rcases List.mem_cons.1 hz with rfl | hz
          · exact hyx
          · obtain ⟨k2, hk2⟩ := List.getElem?_of_mem hz
            rw [List.getElem?_drop] at hk2
            exact kle_trans hyx (q4 _ z hk2 (by omega))
      · have : (B.take r ++ x :: B.drop r).Perm (x :: (B.take r ++ B.drop r)) := List.perm_middle
        rw [List.take_append_drop] at this
        simpa using this
    · by_cases k2 : B.length = 1
      · unfold slices_symMergeCmpFunc_api_Edit_b
        rw [e1, if_neg (by omega), e2, if_pos (by omega)]
        obtain ⟨x, rfl⟩ := List.length_eq_one_iff.1 k2
        obtain ⟨r, q1, q2, q3, q4⟩ := sl2 F (by omega) (slices_symMergeCmpFunc_api_Edit_r F R) ((P.length + A.length + [x].length : Nat) : Int) P A S x hA (by simpa using h5) A.length 0 A.length F rfl (by omega) (Nat.le_refl _) (by omega) (fun k y _ hk => absurd hk (by omega)) (fun k y hk hk2 => by rw [List.getElem?_eq_none hk2] at hk; cases hk)
        rw [show P ++ A ++ [x] ++ S = P ++ A ++ x :: S by simp]
        simp only [Nat.add_zero] at q1
        rw [q1]
        simp only [Option.bind_some]
        have hr : (A.take r).length = r := by simp; omega
        have hr2 : (A.drop r).length = A.length - r := by simp
        have q5 := sl3 F (slices_symMergeCmpFunc_api_Edit_r F R) (P ++ A ++ x :: S) (P.length : Int) ((P.length + A.length : Nat) : Int) ((P.length + A.length + [x].length : Nat) : Int) x (P ++ A.take r) (A.drop r).length (A.drop r) S F rfl (by omega) (by simp; omega)
        have hsp : P ++ A.take r ++ A.drop r ++ x :: S = P ++ A ++ x :: S := by rw [List.append_assoc P, List.take_append_drop]
        rw [hsp, List.length_append, hr, hr2, show P.length + r + (A.length - r) = P.length + A.length by omega] at q5
        rw [q5]
        refine ⟨A.take r ++ x :: A.drop r, by simp, ?_, ?_⟩
        · refine List.pairwise_append.2 ⟨srt_take hA r, List.pairwise_cons.2 ⟨fun y hy => ?_, srt_drop hA r⟩, fun y hy z hz => ?_⟩
          · obtain ⟨k, hk⟩ := List.getElem?_of_mem hy
            rw [List.getElem?_drop] at hk
            exact klt_kle (q4 _ y hk (by omega))
          · obtain ⟨k, hk⟩ := List.getElem?_of_mem hy
            have hkr : k < r := by
              have := (List.getElem?_eq_some_iff.1 hk).1
              omega
            rw [List.getElem?_take_of_lt hkr] at hk
            have hyx := q3 k y hk hkr
            rcases List.mem_cons.1 hz with rfl | hz
            · exact hyx
            · obtain ⟨k2, hk2⟩ := List.getElem?_of_mem hz
              rw [List.getElem?_drop] at hk2
              exact kle_trans hyx (klt_kle (q4 _ z hk2 (by omega)))
        · have : (A.take r ++ x :: A.drop r).Perm (x :: (A.take r ++ A.drop r)) := List.perm_middle
          rw [List.take_append_drop] at this
          exact this.trans (List.perm_append_singleton x A).symm
      · exact sym3 F d _ (fun P' A' B' S' g1 g2 g3 g4 g5 g6 => ih _ g1 P' A' B' S' R rfl (by omega) g2 g3 g4 (by omega) g5 g6) P A B S h1 h6 (by omega) (by omega) h5 hA hB rfl rfl rfl (by rw [e1]; omega) (by rw [e2]; omega)
end Go.Proofs.Ytdajldmgdpggkaa.M
