/- The program's answer, told as the document's. -/
import Derived.Test.YtpijjenaadkjdaaPChk
namespace Go.Proofs.Ytpijjenaadkjdaa.M
open Go Am Sy
set_option linter.unusedVariables false
set_option linter.unusedSimpArgs false

def LP (l : List api_Node) (i To : Int) : Int → List Int → Prop
  | _, [] => True
  | e, k :: ks => ∃ y, i < k ∧ 0 ≤ k ∧ k < l.length ∧ l[k.toNat]? = some y ∧ y.Up = i ∧ e ≤ y.From ∧ y.To ≤ To ∧ LP l i To y.To ks
theorem liesL_iff (l : List api_Node) (i To : Int) : ∀ (ks : List Int) (e : Int), liesL l i To ks e = true ↔ LP l i To e ks := by
  intro ks
  induction ks with
  | nil => intro e; simp [liesL, LP]
  | cons k ks ih =>
    intro e
    simp only [liesL, LP]
    by_cases c1 : k ≤ i
    · rw [if_pos c1]
      exact ⟨fun q => by simp at q, fun ⟨y, q, _⟩ => by omega⟩
    rw [if_neg c1]
    by_cases c2 : 0 ≤ k ∧ k < (l.length : Int)
    · rw [if_pos c2]
      have hkl : k.toNat < l.length := by omega
      rw [List.getElem?_eq_getElem hkl]
      simp only
      generalize l[k.toNat] = y
      by_cases c3 : y.Up = i
      · rw [if_pos c3]
        by_cases c4 : y.From < e
        · rw [if_pos c4]
          exact ⟨fun q => by simp at q, fun ⟨z, _, _, _, q, _, q2, _⟩ => by simp only [Option.some.injEq] at q; subst q; omega⟩
        rw [if_neg c4]
        by_cases c5 : To < y.To
        · rw [if_pos c5]
          exact ⟨fun q => by simp at q, fun ⟨z, _, _, _, q, _, _, q2, _⟩ => by simp only [Option.some.injEq] at q; subst q; omega⟩
        rw [if_neg c5, ih]
        exact ⟨fun q => ⟨y, by omega, c2.1, c2.2, rfl, c3, by omega, by omega, q⟩, fun ⟨z, _, _, _, q, _, _, _, q2⟩ => by simp only [Option.some.injEq] at q; subst q; exact q2⟩
      · rw [if_neg c3]
        exact ⟨fun q => by simp at q, fun ⟨z, _, _, _, q, q2, _⟩ => by simp only [Option.some.injEq] at q; subst q; exact absurd q2 c3⟩
    · rw [if_neg c2]
      simp only
      exact ⟨fun q => by simp at q, fun ⟨y, _, q1, q2, _⟩ => absurd ⟨q1, q2⟩ c2⟩
theorem ndL_iff : ∀ (ks pre : List Int), ndL pre ks = true ↔ (∀ k ∈ ks, k ∉ pre) ∧ ks.Nodup := by
  intro ks
  induction ks with
  | nil => intro pre; simp [ndL]
  | cons k ks ih =>
    intro pre
    simp only [ndL, Bool.and_eq_true, Bool.not_eq_true', decide_eq_false_iff_not, ih, List.mem_cons, forall_eq_or_imp, List.nodup_cons, List.mem_append, List.not_mem_nil, or_false, not_or]
    constructor
    · rintro ⟨h1, h2, h3⟩
      exact ⟨⟨h1, fun j hj => (h2 j hj).1⟩, fun q => (h2 k q).2 rfl, h3⟩
    · rintro ⟨⟨h1, h2⟩, h3, h4⟩
      exact ⟨h1, fun j hj => ⟨h2 j hj, fun e => h3 (by rw [← e]; exact hj)⟩, h4⟩
theorem chkL_iff (l : List api_Node) : ∀ (xs : List api_Node) (i s r : Nat), chkL l xs i s = some r ↔ (∀ (j : Nat) x, xs[j]? = some x → liesB l ((i + j : Nat) : Int) x = true ∧ (i + j = 0 ∨ (0 ≤ x.Up ∧ x.Up < ((i + j : Nat) : Int))) ∧ ndL [] x.Kids = true) ∧ r = s + lenSum xs := by
  intro xs
  induction xs with
  | nil =>
    intro i s r
    simp only [chkL, Option.some.injEq, lenSum, List.map_nil, List.sum_nil, Nat.add_zero]
    exact ⟨fun q => ⟨fun j x hx => by simp at hx, q.symm⟩, fun q => q.2.symm⟩
  | cons x xs ih =>
    intro i s r
    simp only [chkL]
    by_cases c : liesB l i x = true ∧ (i = 0 ∨ (0 ≤ x.Up ∧ x.Up < (i : Int))) ∧ ndL [] x.Kids = true
    · rw [if_pos c, ih]
      have hl : lenSum (x :: xs) = x.Kids.length + lenSum xs := by simp [lenSum]
      constructor
      · rintro ⟨h1, h2⟩
        refine ⟨fun j y hy => ?_, by omega⟩
        cases j with
        | zero => simp only [List.getElem?_cons_zero, Option.some.injEq] at hy; subst hy; exact c
        | succ j =>
          have := h1 j y hy
          rw [show i + 1 + j = i + (j + 1) by omega] at this
          exact this
      · rintro ⟨h1, h2⟩
        refine ⟨fun j y hy => ?_, by omega⟩
        have := h1 (j + 1) y hy
        rw [show i + (j + 1) = i + 1 + j by omega] at this
        exact this
    · rw [if_neg c]
      exact ⟨fun q => (by cases q), fun q => absurd (q.1 0 x rfl) c⟩
theorem KP_mem {l : List api_Node} {i To : Int} : ∀ {ks : List Int} {e : Int}, KP l i To e ks → ∀ k ∈ ks, ∃ y, 0 < k ∧ k < l.length ∧ l[k.toNat]? = some y ∧ y.Up = i ∧ y.From ≤ y.To := by
  intro ks
  induction ks with
  | nil => intro e _ k hk; cases hk
  | cons j ks ih =>
    rintro e ⟨y, h1, h2, h3, h4, h5, h6, h7, h8⟩ k hk
    rcases List.mem_cons.1 hk with rfl | hk
    · exact ⟨y, h1, h2, h3, h4, h7⟩
    · exact ih h8 k hk
theorem LP_mem {l : List api_Node} {i To : Int} : ∀ {ks : List Int} {e : Int}, LP l i To e ks → ∀ k ∈ ks, ∃ y, i < k ∧ k < l.length ∧ l[k.toNat]? = some y ∧ y.Up = i := by
  intro ks
  induction ks with
  | nil => intro e _ k hk; cases hk
  | cons j ks ih =>
    rintro e ⟨y, h1, h2, h3, h4, h5, h6, h7, h8⟩ k hk
    rcases List.mem_cons.1 hk with rfl | hk
    · exact ⟨y, h1, h3, h4, h5⟩
    · exact ih h8 k hk
theorem LP_of_KP {l : List api_Node} {i To : Int} (hu : ∀ k y, 0 < k → k < (l.length : Int) → l[k.toNat]? = some y → y.Up < k) : ∀ {ks : List Int} {e : Int}, KP l i To e ks → LP l i To e ks := by
  intro ks
  induction ks with
  | nil => intro e _; trivial
  | cons k ks ih =>
    rintro e ⟨y, h1, h2, h3, h4, h5, h6, h7, h8⟩
    have := hu k y h1 h2 h3
    exact ⟨y, by omega, by omega, h2, h3, h4, h5, h6, ih h8⟩
theorem KP_of_LP {l : List api_Node} {i To : Int} (hi : 0 ≤ i) (hu : ∀ k y, 0 ≤ k → k < (l.length : Int) → l[k.toNat]? = some y → y.From ≤ y.To) : ∀ {ks : List Int} {e : Int}, LP l i To e ks → KP l i To e ks := by
  intro ks
  induction ks with
  | nil => intro e _; trivial
  | cons k ks ih =>
    rintro e ⟨y, h1, h2, h3, h4, h5, h6, h7, h8⟩
    exact ⟨y, by omega, h3, h4, h5, h6, h7, hu k y h2 h3 h4, ih h8⟩
theorem checkB_iff (l : List api_Node) (n : Int) (h0 : 0 ≤ n) : checkB l n = true ↔ RC l n := by
  cases hl : l with
  | nil => 
    refine ⟨fun q => by simp [checkB] at q, fun ⟨⟨x, q, _⟩, _⟩ => by simp at q⟩
  | cons x xs =>
    rw [← hl]
    have hx : l[0]? = some x := by rw [hl]; rfl
    have hp : 0 < l.length := by rw [hl]; simp
    have hcb : checkB l n = (decide (x.Kind = 1 ∧ x.From = 0 ∧ x.To = n ∧ x.Up = -1) && decide (chkL l l 0 0 = some (l.length - 1))) := by
      conv => lhs; rw [hl]
      simp only [checkB, ← hl]
    rw [hcb, Bool.and_eq_true, decide_eq_true_eq, decide_eq_true_eq, chkL_iff]
    simp only [Nat.zero_add]
    have hlt : ∀ {j : Nat} {y : api_Node}, l[j]? = some y → j < l.length := fun {j y} hy => by
      rcases Nat.lt_or_ge j l.length with q | q
      · exact q
      · rw [List.getElem?_eq_none q] at hy; cases hy
    constructor
    · rintro ⟨hr, hall, hsum⟩
      have hlies : ∀ (j : Nat) y, l[j]? = some y → LP l j y.To y.From y.Kids ∧ y.From ≤ y.To := fun j y hy => by
        have := (hall j y hy).1
        unfold liesB at this
        rw [Bool.and_eq_true, decide_eq_true_eq, liesL_iff] at this
        exact this
      have hkids : ∀ y ∈ l, ∀ k ∈ y.Kids, 0 ≤ k ∧ k < (l.length : Int) := fun y hy k hk => by
        obtain ⟨j, hj⟩ := List.getElem?_of_mem hy
        obtain ⟨z, q1, q2, _⟩ := LP_mem (hlies j y hj).1 k hk
        omega
      have hle : ∀ m, cntOf l m ≤ 1 := fun m => by
        rcases Nat.lt_or_ge m l.length with hm | hm
        · refine cntOf_le (u := l[m].Up) l 0 (fun i y hy => ⟨?_, fun q => ?_⟩)
          · have := (hall i y hy).2.2
            rw [ndL_iff] at this
            exact count_nodup this.2 _
          · obtain ⟨z, q1, q2, q3, q4⟩ := LP_mem (hlies i y hy).1 _ q
            rw [Int.toNat_natCast, List.getElem?_eq_getElem hm] at q3
            simp only [Option.some.injEq] at q3
            rw [q3, q4, Nat.zero_add]
        · rcases Nat.eq_zero_or_pos (cntOf l m) with q | q
          · omega
          · obtain ⟨i, y, q1, q2⟩ := cntOf_pos q
            have := hkids y (List.mem_of_getElem? q1) _ q2
            omega
      have hz : cntOf l 0 = 0 := by
        rcases Nat.eq_zero_or_pos (cntOf l 0) with q | q
        · exact q
        · obtain ⟨i, y, q1, q2⟩ := cntOf_pos q
          obtain ⟨z, q3, _⟩ := LP_mem (hlies i y q1).1 _ q2
          omega
      refine ⟨⟨x, hx, hr⟩, fun j y hy => ⟨(hall j y hy).2.1, KP_of_LP (by omega) (fun k z h1 h2 h3 => (hlies k.toNat z h3).2) (hlies j y hy).1⟩, ?_⟩
      have hs := lenSum_eq l.length l hkids
      rw [← hsum] at hs
      have hsplit : ∀ N, sumTo (cntOf l) (N + 1) = cntOf l 0 + sumTo (fun m => cntOf l (m + 1)) N := by
        intro N
        induction N with
        | zero => simp [sumTo]
        | succ N ih => rw [sumTo, ih, sumTo]; omega
      obtain ⟨N, hN⟩ : ∃ N, l.length = N + 1 := ⟨l.length - 1, by omega⟩
      rw [hN, hsplit, hz] at hs
      intro m h1 h2
      have := sumTo_full (fun m => cntOf l (m + 1)) N (fun m _ => hle (m + 1)) (by omega) (m - 1) (by omega)
      have e : m - 1 + 1 = m := by omega
      rw [e] at this
      exact this
    · rintro ⟨⟨x', hx', hr⟩, hnp, hcnt⟩
      rw [hx] at hx'
      simp only [Option.some.injEq] at hx'
      subst hx'
      have hups : ∀ k y, 0 < k → k < (l.length : Int) → l[k.toNat]? = some y → y.Up < k := fun k y h1 h2 h3 => by
        rcases (hnp k.toNat y h3).1 with q | q <;> omega
      have hkids : ∀ y ∈ l, ∀ k ∈ y.Kids, 0 < k ∧ k < (l.length : Int) := fun y hy k hk => by
        obtain ⟨j, hj⟩ := List.getElem?_of_mem hy
        obtain ⟨z, q1, q2, _⟩ := KP_mem (hnp j y hj).2 k hk
        exact ⟨q1, q2⟩
      have hft : ∀ (j : Nat) y, l[j]? = some y → y.From ≤ y.To := fun j y hy => by
        rcases Nat.eq_zero_or_pos j with rfl | hj
        · rw [hx] at hy; simp only [Option.some.injEq] at hy; subst hy; omega
        · have := hcnt j hj (hlt hy)
          obtain ⟨i, z, q1, q2⟩ := cntOf_pos (xs := l) (m := j) (by omega)
          obtain ⟨w, _, _, q3, _, q4⟩ := KP_mem (hnp i z q1).2 _ q2
          rw [Int.toNat_natCast, hy] at q3
          simp only [Option.some.injEq] at q3
          rw [q3]; exact q4
      refine ⟨hr, fun j y hy => ⟨?_, (hnp j y hy).1, ?_⟩, ?_⟩
      · unfold liesB
        rw [Bool.and_eq_true, decide_eq_true_eq, liesL_iff]
        exact ⟨LP_of_KP hups (hnp j y hy).2, hft j y hy⟩
      · rw [ndL_iff]
        refine ⟨fun k _ => by simp, nodup_count fun k => ?_⟩
        by_cases hk : k ∈ y.Kids
        · obtain ⟨q1, q2⟩ := hkids y (List.mem_of_getElem? hy) k hk
          have := cntOf_mem (m := k.toNat) (List.mem_of_getElem? hy)
          rw [hcnt k.toNat (by omega) (by omega), Int.toNat_of_nonneg (by omega)] at this
          exact this
        · rw [List.count_eq_zero_of_not_mem hk]; omega
      · rw [lenSum_eq l.length l (fun y hy k hk => by have := hkids y hy k hk; omega)]
        have hz : cntOf l 0 = 0 := by
          rcases Nat.eq_zero_or_pos (cntOf l 0) with q | q
          · exact q
          · obtain ⟨i, y, q1, q2⟩ := cntOf_pos q
            have := hkids y (List.mem_of_getElem? q1) _ q2
            omega
        obtain ⟨N, hN⟩ : ∃ N, l.length = N + 1 := ⟨l.length - 1, by omega⟩
        rw [hN]
        have : ∀ M, M ≤ N → sumTo (cntOf l) (M + 1) = M := by
          intro M
          induction M with
          | zero => intro _; simp [sumTo, hz]
          | succ M ih => intro hM; rw [sumTo, ih (by omega), hcnt (M + 1) (by omega) (by omega)]
        rw [this N (Nat.le_refl _)]; omega
theorem both_check (F : Nat) (l : List api_Node) (n : Int) (hf : Fits F l) (h0 : 0 ≤ n) : ∃ b, arena_Check F ⟨l⟩ n = some b ∧ correctorref10_Check F ⟨l⟩ n = some b := by
  have hn := hf.n
  have hF := hf.F
  have h1 := check_eq F ⟨l⟩ n hf.small (by show l.length < F; omega) (fun x hx => by have := hf.k x hx; omega)
  refine ⟨checkB l n, h1, ?_⟩
  rcases Rcheck_eq F l n hf h0 with ⟨q1, q2⟩ | ⟨q1, q2⟩
  · rw [q2, (checkB_iff l n h0).2 q1]
  · rw [q2]
    have : checkB l n ≠ true := fun q => q1 ((checkB_iff l n h0).1 q)
    rw [Bool.eq_false_iff.2 this]
end Go.Proofs.Ytpijjenaadkjdaa.M
