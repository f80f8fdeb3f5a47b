/- Whether nodes lie as they must: the document's answer is the program's. -/
import Derived.Test.YtpijjenaadkjdaaPSame
namespace Go.Proofs.Ytpijjenaadkjdaa.M
open Go Am Sy
set_option linter.unusedVariables false
set_option linter.unusedSimpArgs false

/-! ### Sums -/
def sumTo (f : Nat → Nat) : Nat → Nat
  | 0 => 0
  | m + 1 => sumTo f m + f m
theorem sumTo_add (f g : Nat → Nat) : ∀ N, sumTo (fun m => f m + g m) N = sumTo f N + sumTo g N := by
  intro N
  induction N with
  | zero => rfl
  | succ N ih => simp only [sumTo, ih]; omega
theorem sumTo_ext {f g : Nat → Nat} : ∀ N, (∀ m, m < N → f m = g m) → sumTo f N = sumTo g N := by
  intro N
  induction N with
  | zero => intro _; rfl
  | succ N ih => intro h; simp only [sumTo]; rw [ih (fun m hm => h m (by omega)), h N (by omega)]
theorem sumTo_one (k : Nat) : ∀ N, sumTo (fun m => if m = k then 1 else 0) N = if k < N then 1 else 0 := by
  intro N
  induction N with
  | zero => simp [sumTo]
  | succ N ih =>
    simp only [sumTo, ih]
    by_cases h : k < N
    · rw [if_pos h, if_neg (by omega), if_pos (by omega)]
    · rw [if_neg h]
      by_cases h2 : N = k
      · rw [if_pos h2, if_pos (by omega)]
      · rw [if_neg h2, if_neg (by omega)]
theorem sumTo_zero : ∀ N, sumTo (fun _ => 0) N = 0 := by
  intro N
  induction N with
  | zero => rfl
  | succ N ih => simp only [sumTo, ih]
theorem sumTo_le (f : Nat → Nat) : ∀ N, (∀ m, m < N → f m ≤ 1) → sumTo f N ≤ N := by
  intro N
  induction N with
  | zero => intro _; exact Nat.le_refl _
  | succ N ih => intro h; simp only [sumTo]; have := ih (fun m hm => h m (by omega)); have := h N (by omega); omega
theorem sumTo_full (f : Nat → Nat) : ∀ N, (∀ m, m < N → f m ≤ 1) → sumTo f N = N → ∀ m, m < N → f m = 1 := by
  intro N
  induction N with
  | zero => intro _ _ m hm; omega
  | succ N ih =>
    intro h hs m hm
    simp only [sumTo] at hs
    have h1 := sumTo_le f N (fun m hm => h m (by omega))
    have h2 := h N (by omega)
    by_cases e : m = N
    · subst e; omega
    · exact ih (fun m hm => h m (by omega)) (by omega) m (by omega)
theorem count_sum : ∀ (ks : List Int) (N : Nat), (∀ k ∈ ks, 0 ≤ k ∧ k < (N : Int)) → ks.length = sumTo (fun m => ks.count (m : Int)) N := by
  intro ks
  induction ks with
  | nil => intro N _; simp [sumTo_zero]
  | cons k ks ih =>
    intro N h
    have h1 := h k List.mem_cons_self
    have h2 : (fun m : Nat => (k :: ks).count (m : Int)) = fun m : Nat => ks.count (m : Int) + (if m = k.toNat then 1 else 0) := by
      funext m
      rw [List.count_cons]
      congr 1
      by_cases e : m = k.toNat
      · rw [if_pos e, if_pos (by simp; omega)]
      · rw [if_neg e, if_neg (by simp; omega)]
    rw [h2, sumTo_add, ← ih N (fun q hq => h q (List.mem_cons_of_mem _ hq)), sumTo_one, if_pos (by omega), List.length_cons]
def cntOf (xs : List api_Node) (m : Nat) : Nat := (xs.map fun x => x.Kids.count (m : Int)).sum
def lenSum (xs : List api_Node) : Nat := (xs.map fun x => x.Kids.length).sum
theorem lenSum_eq (N : Nat) : ∀ (xs : List api_Node), (∀ x ∈ xs, ∀ k ∈ x.Kids, 0 ≤ k ∧ k < (N : Int)) → lenSum xs = sumTo (cntOf xs) N := by
  intro xs
  induction xs with
  | nil => intro _; exact (sumTo_zero N).symm
  | cons x xs ih =>
    intro h
    have h1 := ih (fun y hy => h y (List.mem_cons_of_mem _ hy))
    have h2 : cntOf (x :: xs) = fun m : Nat => x.Kids.count (m : Int) + cntOf xs m := by funext m; simp [cntOf]
    rw [h2, sumTo_add, ← h1, ← count_sum x.Kids N (h x List.mem_cons_self)]
    simp [lenSum]
theorem cntOf_pos {xs : List api_Node} {m : Nat} (h : 0 < cntOf xs m) : ∃ (i : Nat) (x : api_Node), xs[i]? = some x ∧ (m : Int) ∈ x.Kids := by
  induction xs with
  | nil => simp [cntOf] at h
  | cons x xs ih =>
    by_cases e : (m : Int) ∈ x.Kids
    · exact ⟨0, x, rfl, e⟩
    · have : cntOf (x :: xs) m = cntOf xs m := by simp [cntOf, List.count_eq_zero_of_not_mem e]
      rw [this] at h
      obtain ⟨i, y, h1, h2⟩ := ih h
      exact ⟨i + 1, y, h1, h2⟩
theorem cntOf_mem {xs : List api_Node} {m : Nat} {x : api_Node} (hx : x ∈ xs) : x.Kids.count (m : Int) ≤ cntOf xs m := by
  induction xs with
  | nil => cases hx
  | cons y xs ih =>
    have : cntOf (y :: xs) m = y.Kids.count (m : Int) + cntOf xs m := by simp [cntOf]
    rw [this]
    rcases List.mem_cons.1 hx with rfl | hx
    · omega
    · have := ih hx; omega
/-- In one node's row at most, and there once. -/
theorem cntOf_le {m : Nat} {u : Int} : ∀ (xs : List api_Node) (o : Nat), (∀ i x, xs[i]? = some x → x.Kids.count (m : Int) ≤ 1 ∧ ((m : Int) ∈ x.Kids → u = ((o + i : Nat) : Int))) → cntOf xs m ≤ 1 := by
  intro xs
  induction xs with
  | nil => intro o _; simp [cntOf]
  | cons x xs ih =>
    intro o h
    have hc : cntOf (x :: xs) m = x.Kids.count (m : Int) + cntOf xs m := by simp [cntOf]
    rw [hc]
    by_cases e : (m : Int) ∈ x.Kids
    · have hu := (h 0 x rfl).2 e
      have hz : cntOf xs m = 0 := by
        rcases Nat.eq_zero_or_pos (cntOf xs m) with q | q
        · exact q
        · obtain ⟨i, y, q1, q2⟩ := cntOf_pos q
          have := (h (i + 1) y q1).2 q2
          omega
      have := (h 0 x rfl).1
      omega
    · rw [List.count_eq_zero_of_not_mem e, Nat.zero_add]
      exact ih (o + 1) (fun i y hy => ⟨(h (i + 1) y hy).1, fun q => by have := (h (i + 1) y hy).2 q; omega⟩)
theorem nodup_count : ∀ {ks : List Int}, (∀ k, ks.count k ≤ 1) → ks.Nodup := by
  intro ks
  induction ks with
  | nil => intro _; exact List.nodup_nil
  | cons k ks ih =>
    intro h
    refine List.nodup_cons.2 ⟨fun q => ?_, ih fun j => ?_⟩
    · have := h k
      rw [List.count_cons_self] at this
      have := List.count_pos_iff.2 q
      omega
    · have := h j
      rw [List.count_cons] at this
      omega
theorem count_nodup : ∀ {ks : List Int}, ks.Nodup → ∀ k, ks.count k ≤ 1 := by
  intro ks
  induction ks with
  | nil => intro _ k; simp
  | cons j ks ih =>
    intro h k
    obtain ⟨h1, h2⟩ := List.nodup_cons.1 h
    rw [List.count_cons]
    by_cases e : j == k
    · have e' : j = k := by simpa using e
      subst e'
      rw [List.count_eq_zero_of_not_mem h1]; simp
    · rw [if_neg e]; have := ih h2 k; omega
/-! ### The document's -/
def KP (l : List api_Node) (i To : Int) : Int → List Int → Prop
  | _, [] => True
  | e, k :: ks => ∃ y, 0 < k ∧ k < l.length ∧ l[k.toNat]? = some y ∧ y.Up = i ∧ e ≤ y.From ∧ y.To ≤ To ∧ y.From ≤ y.To ∧ KP l i To y.To ks
theorem kids_l0R (F : Nat) (l : List api_Node) (i : Nat) (x : api_Node) (hx : l[i]? = some x) (hi : i < 1000000) (s0 : List Int) (hk : x.Kids.length ≤ 1000000) : ∀ (d n j : Nat) (s : List Int) (e B : Int), j + d = x.Kids.length → d < n → s.length = l.length → (∀ v ∈ s, 0 ≤ v ∧ v ≤ B) → B + d ≤ 1000000000000 →
    ∃ r, correctorref10_kids_l0 F l (i : Int) s0 n s e (j : Int) = some r ∧ ((KP l i x.To e (x.Kids.drop j) ∧ ∃ s', r = .inl s' ∧ s'.length = l.length ∧ (∀ v ∈ s', 0 ≤ v ∧ v ≤ B + d) ∧ ∀ m : Nat, m < l.length → s'[m]?.getD 0 = s[m]?.getD 0 + ((x.Kids.drop j).count (m : Int) : Nat)) ∨ (¬ KP l i x.To e (x.Kids.drop j) ∧ ∃ s', r = .inr (false, s'))) := by
  have hil : i < l.length := by
    rcases Nat.lt_or_ge i l.length with q | q
    · exact q
    · rw [List.getElem?_eq_none q] at hx; cases hx
  intro d
  induction d with
  | zero =>
    intro n j s e B h1 h2 hs hb hB
    obtain ⟨n, rfl⟩ : ∃ m, n = m + 1 := ⟨n - 1, by omega⟩
    rw [correctorref10_kids_l0, if_pos (by omega), get_nat, hx]
    simp only [Option.bind_some]
    rw [if_neg (by omega), List.drop_eq_nil_of_le (by omega)]
    exact ⟨_, rfl, .inl ⟨trivial, s, rfl, hs, fun v hv => by have := hb v hv; omega, fun m hm => by simp⟩⟩
  | succ d ih =>
    intro n j s e B h1 h2 hs hb hB
    obtain ⟨n, rfl⟩ : ∃ m, n = m + 1 := ⟨n - 1, by omega⟩
    have hj : j < x.Kids.length := by omega
    rw [correctorref10_kids_l0, if_pos (by omega)]
    simp only [get_nat, hx, Option.bind_some]
    rw [if_pos (by omega), if_pos (by omega), if_pos (by omega)]
    simp only [List.getElem?_eq_getElem hj, Option.bind_some]
    rw [List.drop_eq_getElem_cons hj]
    generalize x.Kids[j] = k
    by_cases c1 : k ≤ 0
    · rw [if_pos c1]; exact ⟨_, rfl, .inr ⟨fun ⟨y, q, _⟩ => by omega, _, rfl⟩⟩
    rw [if_neg c1]
    by_cases c2 : (l.length : Int) ≤ k
    · rw [if_pos c2]; exact ⟨_, rfl, .inr ⟨fun ⟨y, _, q, _⟩ => by omega, _, rfl⟩⟩
    rw [if_neg c2, if_pos (by omega)]
    have hkl : k.toNat < l.length := by omega
    simp only [List.getElem?_eq_getElem hkl, Option.bind_some]
    have hy : l[k.toNat]? = some l[k.toNat] := List.getElem?_eq_getElem hkl
    generalize l[k.toNat] = y at *
    have hno : ¬ (y.Up = i ∧ e ≤ y.From ∧ y.To ≤ x.To ∧ y.From ≤ y.To) → ¬ KP l i x.To e (k :: x.Kids.drop (j + 1)) := by
      rintro q ⟨z, _, _, q3, q4, q5, q6, q7, _⟩
      rw [hy] at q3; simp only [Option.some.injEq] at q3; subst q3
      exact q ⟨q4, q5, q6, q7⟩
    by_cases c3 : y.Up = (i : Int)
    case neg => rw [if_neg c3]; exact ⟨_, rfl, .inr ⟨hno (fun q => c3 q.1), _, rfl⟩⟩
    rw [if_pos c3, if_pos (by omega)]
    by_cases c4 : y.From < e
    · rw [if_pos c4]; exact ⟨_, rfl, .inr ⟨hno (fun q => by omega), _, rfl⟩⟩
    rw [if_neg c4, if_pos (by omega), if_pos (by omega)]
    by_cases c5 : x.To < y.To
    · rw [if_pos c5]; exact ⟨_, rfl, .inr ⟨hno (fun q => by omega), _, rfl⟩⟩
    rw [if_neg c5, if_pos (by omega), if_pos (by omega)]
    by_cases c6 : y.To < y.From
    · rw [if_pos c6]; exact ⟨_, rfl, .inr ⟨hno (fun q => by omega), _, rfl⟩⟩
    have hks : k.toNat < s.length := by omega
    rw [if_neg c6, if_pos (by omega), if_pos (by omega)]
    simp only [List.getElem?_eq_getElem hks, Option.bind_some]
    rw [if_pos (by omega)]
    have hv := hb _ (List.getElem_mem hks)
    have hw : w64 (s[k.toNat] + 1) = s[k.toNat] + 1 := w64_eq (by omega) (by omega)
    have hw2 : w64 ((j : Int) + 1) = ((j + 1 : Nat) : Int) := by rw [w64_eq (by omega) (by omega)]; omega
    rw [hw, hw2]
    obtain ⟨r, r1, r2⟩ := ih n (j + 1) (s.set k.toNat (s[k.toNat] + 1)) y.To (B + 1) (by omega) (by omega) (by rw [List.length_set]; exact hs) (fun v hv' => by
      rcases List.mem_or_eq_of_mem_set hv' with q | q
      · have := hb v q; omega
      · omega) (by omega)
    refine ⟨r, r1, ?_⟩
    rcases r2 with ⟨q1, s', q2, q3, q4, q5⟩ | ⟨q1, q2⟩
    · refine .inl ⟨⟨y, by omega, by omega, hy, c3, by omega, by omega, by omega, q1⟩, s', q2, q3, fun v hv => by have := q4 v hv; omega, fun m hm => ?_⟩
      rw [q5 m hm, List.count_cons]
      by_cases em : m = k.toNat
      · subst em
        rw [List.getElem?_set_self hks, if_pos (by simp; omega), List.getElem?_eq_getElem hks]
        simp only [Option.getD_some]
        omega
      · rw [List.getElem?_set_ne (by omega), if_neg (by simp; omega)]
        rfl
    · exact .inr ⟨fun ⟨z, _, _, z3, _, _, _, _, z8⟩ => by
        rw [hy] at z3; simp only [Option.some.injEq] at z3; subst z3
        exact q1 z8, q2⟩
def NP (l : List api_Node) (j : Nat) (x : api_Node) : Prop := (j = 0 ∨ (0 ≤ x.Up ∧ x.Up < (j : Int))) ∧ KP l j x.To x.From x.Kids
theorem kidsR (F : Nat) (l : List api_Node) (i : Nat) (x : api_Node) (hx : l[i]? = some x) (hi : i < 1000000) (hk : x.Kids.length ≤ 1000000) (hF : x.Kids.length < F) (s : List Int) (B : Int) (hs : s.length = l.length) (hb : ∀ v ∈ s, 0 ≤ v ∧ v ≤ B) (hB : B ≤ 100000000000) :
    ∃ r s', correctorref10_kids F l (i : Int) s = some (r, s') ∧ ((KP l i x.To x.From x.Kids ∧ r = true ∧ s'.length = l.length ∧ (∀ v ∈ s', 0 ≤ v ∧ v ≤ B + x.Kids.length) ∧ ∀ m : Nat, m < l.length → s'[m]?.getD 0 = s[m]?.getD 0 + (x.Kids.count (m : Int) : Nat)) ∨ (¬ KP l i x.To x.From x.Kids ∧ r = false)) := by
  have hil : i < l.length := by
    rcases Nat.lt_or_ge i l.length with q | q
    · exact q
    · rw [List.getElem?_eq_none q] at hx; cases hx
  unfold correctorref10_kids
  rw [if_pos (by omega), get_nat, hx]
  simp only [Option.bind_some]
  obtain ⟨r, r1, r2⟩ := kids_l0R F l i x hx hi s hk x.Kids.length F 0 s x.From B (by omega) hF hs hb (by omega)
  rw [show ((0 : Nat) : Int) = 0 from rfl] at r1
  rw [r1]
  rw [List.drop_zero] at r2
  rcases r2 with ⟨q1, s', rfl, q3, q4, q5⟩ | ⟨q1, s', rfl⟩
  · exact ⟨_, _, rfl, .inl ⟨q1, rfl, q3, q4, q5⟩⟩
  · exact ⟨_, _, rfl, .inr ⟨q1, rfl⟩⟩
structure Fits (F : Nat) (l : List api_Node) : Prop where
  n : l.length ≤ 1000
  k : ∀ x ∈ l, x.Kids.length ≤ 1000
  F : 2000 ≤ F
theorem Fits.small {F : Nat} {l : List api_Node} (h : Fits F l) : Small l := ⟨by have := h.n; omega, fun x hx => by have := h.k x hx; omega⟩
theorem Rcheck_l0 (F : Nat) (l : List api_Node) (a1 : Int) (hf : Fits F l) : ∀ (d n i : Nat) (s : List Int), i + d = l.length → d < n → s.length = l.length → (∀ v ∈ s, 0 ≤ v ∧ v ≤ (i * 1000 : Nat)) →
    ((∀ j x, i ≤ j → l[j]? = some x → NP l j x) ∧ ∃ s', correctorref10_Check_l0 F ⟨l⟩ a1 n s (i : Int) = some (.inl s') ∧ s'.length = l.length ∧ ∀ m : Nat, m < l.length → s'[m]?.getD 0 = s[m]?.getD 0 + (cntOf (l.drop i) m : Nat)) ∨
    (¬ (∀ j x, i ≤ j → l[j]? = some x → NP l j x) ∧ correctorref10_Check_l0 F ⟨l⟩ a1 n s (i : Int) = some (.inr false)) := by
  intro d
  induction d with
  | zero =>
    intro n i s h1 h2 hs hb
    obtain ⟨n, rfl⟩ : ∃ m, n = m + 1 := ⟨n - 1, by omega⟩
    rw [correctorref10_Check_l0, if_neg (by show ¬ (i : Int) < (l.length : Int); omega)]
    refine .inl ⟨fun j x hj hx => ?_, s, rfl, hs, fun m hm => ?_⟩
    · rw [List.getElem?_eq_none (by omega)] at hx; cases hx
    · rw [List.drop_eq_nil_of_le (by omega)]; simp [cntOf]
  | succ d ih =>
    intro n i s h1 h2 hs hb
    obtain ⟨n, rfl⟩ : ∃ m, n = m + 1 := ⟨n - 1, by omega⟩
    have hi : i < l.length := by omega
    have hn := hf.n
    have hF := hf.F
    have hx : l[i]? = some l[i] := List.getElem?_eq_getElem hi
    have hk := hf.k _ (List.getElem_mem hi)
    rw [correctorref10_Check_l0, if_pos (by show (i : Int) < (l.length : Int); omega)]
    have hdrop : ∀ m : Nat, cntOf (l.drop i) m = l[i].Kids.count (m : Int) + cntOf (l.drop (i + 1)) m := fun m => by rw [List.drop_eq_getElem_cons hi]; simp only [cntOf, List.map_cons, List.sum_cons]
    generalize l[i] = x at *
    have hw : w64 ((i : Int) + 1) = ((i + 1 : Nat) : Int) := by rw [w64_eq (by omega) (by omega)]; omega
    obtain ⟨r, s', k1, k2⟩ := kidsR F l i x hx (by omega) (by omega) (by omega) s (i * 1000 : Nat) hs hb (by have : i * 1000 ≤ 1000 * 1000 := Nat.mul_le_mul_right _ (by omega); omega)
    have main : (i = 0 ∨ (0 ≤ x.Up ∧ x.Up < (i : Int))) →
        (((∀ j x, i ≤ j → l[j]? = some x → NP l j x) ∧ ∃ t, ((if r = true then some (.inl s') else some (.inr false) : Option (Sum (List Int) Bool)).bind fun o => match o with
        | .inl x11039 => correctorref10_Check_l0 F ⟨l⟩ a1 n x11039 (w64 ((i : Int) + 1))
        | .inr y => some (.inr y)) = some (.inl t) ∧ t.length = l.length ∧ ∀ m : Nat, m < l.length → t[m]?.getD 0 = s[m]?.getD 0 + (cntOf (l.drop i) m : Nat)) ∨
        (¬ (∀ j x, i ≤ j → l[j]? = some x → NP l j x) ∧ ((if r = true then some (.inl s') else some (.inr false) : Option (Sum (List Int) Bool)).bind fun o => match o with
        | .inl x11039 => correctorref10_Check_l0 F ⟨l⟩ a1 n x11039 (w64 ((i : Int) + 1))
        | .inr y => some (.inr y)) = some (.inr false))) := by
      intro hu
      rcases k2 with ⟨q1, q2, q3, q4, q5⟩ | ⟨q1, q2⟩
      · subst q2
        simp only [if_true, Option.bind_some]
        rw [hw]
        rcases ih n (i + 1) s' (by omega) (by omega) q3 (fun v hv => by have := q4 v hv; rw [Nat.add_mul]; omega) with ⟨z1, t, z2, z3, z4⟩ | ⟨z1, z2⟩
        · refine .inl ⟨fun j y hj hy => ?_, t, z2, z3, fun m hm => ?_⟩
          · by_cases e : j = i
            · subst e
              rw [hx] at hy; simp only [Option.some.injEq] at hy; subst hy
              exact ⟨hu, q1⟩
            · exact z1 j y (by omega) hy
          · rw [z4 m hm, q5 m hm, hdrop]; omega
        · exact .inr ⟨fun q => z1 fun j y hj hy => q j y (by omega) hy, z2⟩
      · subst q2
        simp only [Bool.false_eq_true, if_false, Option.bind_some]
        exact .inr ⟨fun q => q1 (q i x (Nat.le_refl _) hx).2, trivial⟩
    have hbad : ¬ (i = 0 ∨ (0 ≤ x.Up ∧ x.Up < (i : Int))) → ¬ (∀ j x, i ≤ j → l[j]? = some x → NP l j x) := fun q z => q (z i x (Nat.le_refl _) hx).1
    by_cases hi0 : (0 : Int) < i
    · rw [if_pos hi0, if_pos (by show 0 ≤ (i : Int) ∧ (i : Int) < (l.length : Int); omega)]
      simp only [get_nat, hx, Option.bind_some]
      by_cases c1 : x.Up < 0
      · rw [if_pos c1]; exact .inr ⟨hbad (by omega), rfl⟩
      rw [if_neg c1, if_pos (by omega)]
      by_cases c2 : (i : Int) ≤ x.Up
      · rw [if_pos c2]; exact .inr ⟨hbad (by omega), rfl⟩
      rw [if_neg c2]
      simp only [k1, Option.bind_some]
      exact main (by omega)
    · rw [if_neg hi0]
      simp only [k1, Option.bind_some]
      exact main (by omega)
theorem Rcheck_l1 (F : Nat) (l : List api_Node) (a1 : Int) (hf : Fits F l) (s : List Int) (hs : s.length = l.length) : ∀ (d n i : Nat), i + d = l.length → d < n →
    ((∀ m, i ≤ m → m < l.length → s[m]?.getD 0 = 1) ∧ correctorref10_Check_l1 F ⟨l⟩ a1 n s (i : Int) = some (.inl ())) ∨ (¬ (∀ m, i ≤ m → m < l.length → s[m]?.getD 0 = 1) ∧ correctorref10_Check_l1 F ⟨l⟩ a1 n s (i : Int) = some (.inr false)) := by
  intro d
  induction d with
  | zero =>
    intro n i h1 h2
    obtain ⟨n, rfl⟩ : ∃ m, n = m + 1 := ⟨n - 1, by omega⟩
    rw [correctorref10_Check_l1, if_neg (by show ¬ (i : Int) < (l.length : Int); omega)]
    exact .inl ⟨fun m h3 h4 => by omega, rfl⟩
  | succ d ih =>
    intro n i h1 h2
    obtain ⟨n, rfl⟩ : ∃ m, n = m + 1 := ⟨n - 1, by omega⟩
    have hn := hf.n
    have hi : i < s.length := by omega
    rw [correctorref10_Check_l1, if_pos (by show (i : Int) < (l.length : Int); omega), if_pos (by omega), get_nat, List.getElem?_eq_getElem hi]
    simp only [Option.bind_some]
    have hw : w64 ((i : Int) + 1) = ((i + 1 : Nat) : Int) := by rw [w64_eq (by omega) (by omega)]; omega
    by_cases c : s[i] = 1
    · rw [if_pos c, hw]
      rcases ih n (i + 1) (by omega) (by omega) with ⟨q1, q2⟩ | ⟨q1, q2⟩
      · refine .inl ⟨fun m h3 h4 => ?_, q2⟩
        by_cases e : m = i
        · subst e; rw [List.getElem?_eq_getElem hi]; exact c
        · exact q1 m (by omega) h4
      · exact .inr ⟨fun q => q1 fun m h3 h4 => q m (by omega) h4, q2⟩
    · rw [if_neg c]
      exact .inr ⟨fun q => c (by have := q i (Nat.le_refl _) (by omega); rw [List.getElem?_eq_getElem hi] at this; exact this), rfl⟩
def Root (l : List api_Node) (n : Int) : Prop := ∃ x, l[0]? = some x ∧ x.Kind = 1 ∧ x.From = 0 ∧ x.To = n ∧ x.Up = -1
def RC (l : List api_Node) (n : Int) : Prop := Root l n ∧ (∀ j x, l[j]? = some x → NP l j x) ∧ ∀ m, 1 ≤ m → m < l.length → cntOf l m = 1
theorem Rcheck_eq (F : Nat) (l : List api_Node) (n : Int) (hf : Fits F l) (hn0 : 0 ≤ n) : (RC l n ∧ correctorref10_Check F ⟨l⟩ n = some true) ∨ (¬ RC l n ∧ correctorref10_Check F ⟨l⟩ n = some false) := by
  have hn := hf.n
  have hF := hf.F
  unfold correctorref10_Check
  by_cases h0 : l.length = 0
  · rw [if_pos (by show (l.length : Int) = 0; omega)]
    refine .inr ⟨fun ⟨⟨x, q, _⟩, _⟩ => ?_, rfl⟩
    rw [List.getElem?_eq_none (by omega)] at q; cases q
  have hp : 0 < l.length := by omega
  have hz : ((0 : Int)).toNat = 0 := rfl
  have hx : l[0]? = some l[0] := List.getElem?_eq_getElem hp
  have hg : 0 ≤ (0 : Int) ∧ (0 : Int) < (l.length : Int) := by omega
  rw [if_neg (by show ¬ (l.length : Int) = 0; omega), if_pos hg, hz]
  simp only [hx, Option.bind_some, if_pos hg]
  generalize l[0] = x at *
  have hr : ¬ (x.Kind = 1 ∧ x.From = 0 ∧ x.To = n ∧ x.Up = -1) → ¬ RC l n := by
    rintro q ⟨⟨y, q1, q2⟩, _⟩
    rw [hx] at q1; simp only [Option.some.injEq] at q1; subst q1
    exact q q2
  by_cases c1 : x.Kind = 1
  case neg => rw [if_neg c1]; exact .inr ⟨hr (fun q => c1 q.1), rfl⟩
  by_cases c2 : x.From = 0
  case neg => rw [if_pos c1, if_neg c2]; exact .inr ⟨hr (fun q => c2 q.2.1), rfl⟩
  by_cases c3 : x.To = n
  case neg => rw [if_pos c1, if_pos c2, if_neg c3]; exact .inr ⟨hr (fun q => c3 q.2.2.1), rfl⟩
  by_cases c4 : x.Up = -1
  case neg => rw [if_pos c1, if_pos c2, if_pos c3, if_neg c4]; exact .inr ⟨hr (fun q => c4 q.2.2.2), rfl⟩
  rw [if_pos c1, if_pos c2, if_pos c3, if_pos c4, if_neg (by omega), if_pos (by show 0 ≤ (l.length : Int) ∧ (l.length : Int) ≤ 17592186044416; omega)]
  have hroot : Root l n := ⟨x, hx, c1, c2, c3, c4⟩
  have h3 := Rcheck_l0 F l n hf l.length F 0 (List.replicate (l.length : Int).toNat 0) (by omega) (by omega) (by simp) (fun v hv => by
    have := List.eq_of_mem_replicate hv
    subst this; simp)
  rw [show ((0 : Nat) : Int) = 0 from rfl] at h3
  rcases h3 with ⟨q1, s', q2, q3, q4⟩ | ⟨q1, q2⟩
  · simp only [q2, Option.bind_some]
    have hcnt : ∀ m, m < l.length → s'[m]?.getD 0 = (cntOf l m : Nat) := by
      intro m hm
      rw [q4 m hm, List.drop_zero, List.getElem?_replicate, if_pos (by simpa using hm)]
      simp
    rcases Rcheck_l1 F l n hf s' q3 (l.length - 1) F 1 (by omega) (by omega) with ⟨z1, z2⟩ | ⟨z1, z2⟩
    · rw [show ((1 : Nat) : Int) = 1 from rfl] at z2
      simp only [z2, Option.bind_some]
      refine .inl ⟨⟨hroot, fun j y hy => q1 j y (Nat.zero_le _) hy, fun m h1 h2 => ?_⟩, trivial⟩
      have := z1 m h1 h2
      rw [hcnt m h2] at this; omega
    · rw [show ((1 : Nat) : Int) = 1 from rfl] at z2
      simp only [z2, Option.bind_some]
      refine .inr ⟨fun ⟨_, _, q⟩ => z1 fun m h1 h2 => ?_, trivial⟩
      rw [hcnt m h2, q m h1 h2]; rfl
  · simp only [q2, Option.bind_some]
    exact .inr ⟨fun ⟨_, q, _⟩ => q1 fun j y _ hy => q j y hy, trivial⟩
end Go.Proofs.Ytpijjenaadkjdaa.M
