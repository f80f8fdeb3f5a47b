/- Brackets: what the functions over tokens answer. -/
import Derived.Test.YtahcngeimlkcgaaP11B
namespace Go.Proofs.Ytahcngeimlkcgaa.M
open Go Am Sy
set_option linter.unusedVariables false
set_option linter.unusedSimpArgs false
structure RI (r : flow_reader) : Prop where
 e0 : 0 ≤ r.end_
 e1 : r.end_ ≤ r.l_.length
 n : r.l_.length ≤ 1000
def kd (r : flow_reader) (i : Int) : Int := if i < 0 ∨ r.end_ ≤ i then 0 else match r.l_[i.toNat]? with | some x => x.Kind | none => 0
theorem kind_eq (F : Nat) (r : flow_reader) (h : RI r) (i : Int) : flow_reader_kind F r i = some (kd r i) := by
 unfold flow_reader_kind kd
 by_cases c1 : i < 0
 ·rw [if_pos c1, if_pos (.inl c1)]
 rw [if_neg c1]
 by_cases c2 : r.end_ ≤ i
 ·rw [if_pos c2, if_pos (.inr c2)]
 have := h.e1
 have hl : i.toNat < r.l_.length := by omega
 have hno : ¬ (i < 0 ∨ r.end_ ≤ i) := by omega
 rw [if_neg c2, if_pos (by omega), List.getElem?_eq_getElem hl, if_neg hno]
 rfl
theorem kd_in {r : flow_reader} {i : Int} (h : kd r i ≠ 0) : 0 ≤ i ∧ i < r.end_ := by
 unfold kd at h
 split at h
 ·exact absurd rfl h
 ·omega
theorem kd_get {r : flow_reader} (hr : RI r) {i : Int} (h0 : 0 ≤ i) (h1 : i < r.end_) : ∃ x, r.l_[i.toNat]? = some x ∧ kd r i = x.Kind := by
 have := hr.e1
 have hl : i.toNat < r.l_.length := by omega
 refine ⟨_, List.getElem?_eq_getElem hl, ?_⟩
 unfold kd
 rw [if_neg (by omega), List.getElem?_eq_getElem hl]
def cn (k : Int) : Bool := decide (k ≠ 1 ∧ k ≠ 2 ∧ k ≠ 3 ∧ k ≠ 4)
theorem cn_eq (F : Nat) (k : Int) : flow_counts F k = some (cn k) := by
 unfold flow_counts cn
 by_cases h1 : k = 1
 ·simp [h1]
 by_cases h2 : k = 2
 ·simp [h2]
 by_cases h3 : k = 3
 ·simp [h3]
 by_cases h4 : k = 4
 ·simp [h4]
 simp [h1, h2, h3, h4]
theorem prop_eq (F : Nat) (k : Int) : flow_property F k = some (decide (k = 12 ∨ k = 14)) := by
 unfold flow_property
 by_cases h1 : k = 12
 ·simp [h1]
 by_cases h2 : k = 14
 ·simp [h2]
 simp [h1, h2]
theorem opens_eq (F : Nat) (k : Int) : flow_opens F k = some (decide (k = 8 ∨ k = 9)) := by
 unfold flow_opens
 by_cases h1 : k = 8
 ·simp [h1]
 by_cases h2 : k = 9
 ·simp [h2]
 simp [h1, h2]
theorem ends_eq (F : Nat) (k : Int) : flow_ends F k = some (decide (k = 10 ∨ k = 11)) := by
 unfold flow_ends
 by_cases h1 : k = 10
 ·simp [h1]
 by_cases h2 : k = 11
 ·simp [h2]
 simp [h1, h2]
theorem mark_eq (F : Nat) (k : Int) : flow_mark F k = some (decide (k = 20 ∨ k = 21)) := by
 unfold flow_mark
 by_cases h1 : k = 20
 ·simp [h1]
 by_cases h2 : k = 21
 ·simp [h2]
 simp [h1, h2]
theorem name_ex (F : Nat) (k : Int) : ∃ b, flow_name F k = some b := by
 unfold flow_name
 by_cases h1 : k = 15
 ·simp [h1]
 by_cases h2 : k = 16
 ·simp [h2]
 by_cases h3 : k = 17
 ·simp [h3]
 by_cases h4 : k = 13
 ·simp [h4]
 simp [h1, h2, h3, h4]
theorem w1 {i : Int} (h0 : 0 ≤ i) (h1 : i ≤ 100000) : w64 (i + 1) = i + 1 := w64_eq (by omega) (by omega)
theorem blanks_ex (F : Nat) (hF : 2500 ≤ F) (r : flow_reader) (h : RI r) (i : Int) (h0 : 0 ≤ i) (h1 : i ≤ 2000) : ∃ j, flow_reader_blanks F r i = some j ∧ i ≤ j ∧ (j = i ∨ j ≤ r.end_) := by
 have hn := h.n
 have he := h.e1
 have key : ∀ (d n : Nat) (x : Int), i ≤ x → x ≤ 2000 → (r.end_ - x).toNat ≤ d → d < n → (x = i ∨ x ≤ r.end_) → ∃ j, flow_reader_blanks_l0 F r i n x = some j ∧ i ≤ j ∧ (j = i ∨ j ≤ r.end_) := by
  intro d
  induction d with
  | zero =>
   intro n x hx hx2 hd hn hq
   obtain ⟨n, rfl⟩ : ∃ m, n = m + 1 := ⟨n - 1, by omega⟩
   rw [flow_reader_blanks_l0, kind_eq F r h]
   simp only [Option.bind_some]
   have : kd r x = 0 := by unfold kd; rw [if_pos (by omega)]
   rw [if_neg (by omega)]
   exact ⟨x, rfl, hx, hq⟩
  | succ d ih =>
   intro n x hx hx2 hd hn hq
   obtain ⟨n, rfl⟩ : ∃ m, n = m + 1 := ⟨n - 1, by omega⟩
   rw [flow_reader_blanks_l0, kind_eq F r h]
   simp only [Option.bind_some]
   by_cases c : kd r x = 3
   ·have hin := kd_in (r := r) (i := x) (by omega)
    rw [if_pos c, w1 (by omega) (by omega)]
    exact ih n (x + 1) (by omega) (by omega) (by omega) (by omega) (by omega)
   ·rw [if_neg c]; exact ⟨x, rfl, hx, hq⟩
 unfold flow_reader_blanks
 obtain ⟨j, q1, q2⟩ := key (r.end_ - i).toNat F i (Int.le_refl _) h1 (Nat.le_refl _) (by omega) (.inl rfl)
 exact ⟨j, by rw [q1]; rfl, q2⟩
theorem past_ex (F : Nat) (hF : 2500 ≤ F) (r : flow_reader) (h : RI r) (i : Int) (h0 : 0 ≤ i) (h1 : i ≤ 2000) : ∃ j, flow_reader_past F r i = some j ∧ i ≤ j ∧ (j = i ∨ j ≤ r.end_) ∧ (kd r j ≠ 0 → cn (kd r j) = true) := by
 have hn := h.n
 have he := h.e1
 have key : ∀ (d n : Nat) (x : Int), i ≤ x → x ≤ 2000 → (r.end_ - x).toNat ≤ d → d < n → (x = i ∨ x ≤ r.end_) → ∃ j, flow_reader_past_l0 F r i n x (kd r x) = some j ∧ i ≤ j ∧ (j = i ∨ j ≤ r.end_) ∧ (kd r j ≠ 0 → cn (kd r j) = true) := by
  intro d
  induction d with
  | zero =>
   intro n x hx hx2 hd hn hq
   obtain ⟨n, rfl⟩ : ∃ m, n = m + 1 := ⟨n - 1, by omega⟩
   have : kd r x = 0 := by unfold kd; rw [if_pos (by omega)]
   rw [flow_reader_past_l0, if_pos this]
   exact ⟨x, rfl, hx, hq, fun q => absurd this q⟩
  | succ d ih =>
   intro n x hx hx2 hd hn hq
   obtain ⟨n, rfl⟩ : ∃ m, n = m + 1 := ⟨n - 1, by omega⟩
   rw [flow_reader_past_l0]
   by_cases c0 : kd r x = 0
   ·rw [if_pos c0]; exact ⟨x, rfl, hx, hq, fun q => absurd c0 q⟩
   rw [if_neg c0, cn_eq]
   simp only [Option.bind_some]
   by_cases c : cn (kd r x) = true
   ·rw [if_pos c]; exact ⟨x, rfl, hx, hq, fun _ => c⟩
   ·have hin := kd_in c0
    rw [if_neg c, w1 (by omega) (by omega), kind_eq F r h]
    simp only [Option.bind_some]
    exact ih n (x + 1) (by omega) (by omega) (by omega) (by omega) (by omega)
 unfold flow_reader_past
 rw [kind_eq F r h]
 simp only [Option.bind_some]
 obtain ⟨j, q1, q2⟩ := key (r.end_ - i).toNat F i (Int.le_refl _) h1 (Nat.le_refl _) (by omega) (.inl rfl)
 exact ⟨j, by rw [q1]; rfl, q2⟩
theorem over_ex (F : Nat) (hF : 2500 ≤ F) (r : flow_reader) (h : RI r) (a b : Int) (h0 : 0 ≤ a) (h1 : a ≤ b) (h2 : b ≤ r.end_) : ∃ j, flow_reader_over F r a b = some j ∧ a ≤ j ∧ j ≤ b ∧ (a < b → cn (kd r a) = true → a < j) := by
 have hn := h.n
 have he := h.e1
 have key : ∀ (d n : Nat) (x : Int), a ≤ x → x ≤ b → (x - a).toNat ≤ d → d < n → ∃ j, flow_reader_over_l0 F r a b n x = some j ∧ a ≤ j ∧ j ≤ x ∧ (a < x → cn (kd r a) = true → a < j) := by
  intro d
  induction d with
  | zero =>
   intro n x hx hx2 hd hn
   obtain ⟨n, rfl⟩ : ∃ m, n = m + 1 := ⟨n - 1, by omega⟩
   rw [flow_reader_over_l0, if_neg (by omega)]
   exact ⟨x, rfl, hx, Int.le_refl _, fun q _ => q⟩
  | succ d ih =>
   intro n x hx hx2 hd hn
   obtain ⟨n, rfl⟩ : ∃ m, n = m + 1 := ⟨n - 1, by omega⟩
   rw [flow_reader_over_l0]
   by_cases c : a < x
   ·have hw : w64 (x - 1) = x - 1 := w64_eq (by omega) (by omega)
    obtain ⟨y, g1, g2⟩ := kd_get h (i := x - 1) (by omega) (by omega)
    rw [if_pos c, hw, if_pos (by omega), g1]
    simp only [Option.bind_some, cn_eq]
    by_cases c2 : cn y.Kind = true
    ·rw [if_pos c2]; exact ⟨x, rfl, hx, Int.le_refl _, fun q _ => q⟩
    ·rw [if_neg c2]
     obtain ⟨j, q1, q2, q3, q4⟩ := ih n (x - 1) (by omega) (by omega) (by omega) (by omega)
     refine ⟨j, q1, q2, by omega, fun _ q => ?_⟩
     by_cases e : a = x - 1
     ·rw [e, g2] at q; exact absurd q c2
     ·exact q4 (by omega) q
   ·rw [if_neg c]; exact ⟨x, rfl, hx, Int.le_refl _, fun q _ => q⟩
 unfold flow_reader_over
 obtain ⟨j, q1, q2, q3, q4⟩ := key (b - a).toNat F b h1 (Int.le_refl _) (Nat.le_refl _) (by omega)
 exact ⟨j, by rw [q1]; rfl, q2, q3, q4⟩
theorem closed_ex (F : Nat) (hF : 2500 ≤ F) (r : flow_reader) (h : RI r) (a : Int) (hk : kd r a = 8 ∨ kd r a = 9) : ∃ j, flow_reader_closed F r a = some j ∧ a < j ∧ j ≤ r.end_ := by
 have hn := h.n
 have he := h.e1
 have hin := kd_in (r := r) (i := a) (by omega)
 have hc : cn (kd r a) = true := by rcases hk with e | e <;> rw [e] <;> rfl
 have key : ∀ (d n : Nat) (x o : Int), a ≤ x → x ≤ r.end_ → (r.end_ - x).toNat ≤ d → d < n → -2000 ≤ o → o ≤ x - a → -(x - a) ≤ o → ∃ s, flow_reader_closed_l0 F r a n o x = some s ∧ (match s with | .inl _ => True | .inr j => a < j ∧ j ≤ r.end_) := by
  intro d
  induction d with
  | zero =>
   intro n x o hx hx2 hd hn h3 h4 h5
   obtain ⟨n, rfl⟩ : ∃ m, n = m + 1 := ⟨n - 1, by omega⟩
   rw [flow_reader_closed_l0, if_neg (by omega)]
   exact ⟨_, rfl, trivial⟩
  | succ d ih =>
   intro n x o hx hx2 hd hn h3 h4 h5
   obtain ⟨n, rfl⟩ : ∃ m, n = m + 1 := ⟨n - 1, by omega⟩
   rw [flow_reader_closed_l0]
   by_cases c : x < r.end_
   case neg => rw [if_neg c]; exact ⟨_, rfl, trivial⟩
   have hw : w64 (x + 1) = x + 1 := w1 (by omega) (by omega)
   have hw2 : w64 (o + 1) = o + 1 := w64_eq (by omega) (by omega)
   have hw3 : w64 (o - 1) = o - 1 := w64_eq (by omega) (by omega)
   rw [if_pos c, kind_eq F r h]
   simp only [Option.bind_some, opens_eq, ends_eq, mark_eq, decide_eq_true_eq, hw, hw2, hw3]
   have fin : ∀ o' : Int, o - 1 ≤ o' → o' ≤ o + 1 → ∃ s, (if o' = (0 : Int) then (some (.inr (x + 1)) : Option (Sum Unit Int)) else flow_reader_closed_l0 F r a n o' (x + 1)) = some s ∧ (match s with | .inl _ => True | .inr j => a < j ∧ j ≤ r.end_) := by
    intro o' z1 z2
    by_cases c2 : o' = 0
    ·rw [if_pos c2]; exact ⟨_, rfl, by omega, by omega⟩
    ·rw [if_neg c2]; exact ih n (x + 1) o' (by omega) (by omega) (by omega) (by omega) (by omega) (by omega) (by omega)
   by_cases c1 : kd r x = 8 ∨ kd r x = 9
   ·rw [if_pos c1]; exact fin _ (by omega) (by omega)
   rw [if_neg c1]
   by_cases c2 : kd r x = 10 ∨ kd r x = 11
   ·rw [if_pos c2]; exact fin _ (by omega) (by omega)
   rw [if_neg c2]
   by_cases c3 : kd r x = 20 ∨ kd r x = 21
   ·rw [if_pos c3]
    have hax : a < x := by
     rcases Int.lt_or_eq_of_le hx with q | q
     ·exact q
     ·subst q; exact absurd hk c1
    obtain ⟨j, q1, q2, q3, q4⟩ := over_ex F hF r h a x (by omega) (by omega) (by omega)
    rw [q1]
    exact ⟨_, rfl, q4 hax hc, by omega⟩
   ·rw [if_neg c3]; exact fin _ (by omega) (by omega)
 unfold flow_reader_closed
 obtain ⟨s, q1, q2⟩ := key (r.end_ - a).toNat F a 0 (Int.le_refl _) (by omega) (Nat.le_refl _) (by omega) (by omega) (by omega) (by omega)
 rw [q1]
 cases s with
 | inl u =>
  obtain ⟨j, z1, z2, z3, z4⟩ := over_ex F hF r h a r.end_ (by omega) (by omega) (Int.le_refl _)
  simp only [Option.bind_some, z1]
  exact ⟨j, rfl, z4 (by omega) hc, z3⟩
 | inr j => exact ⟨j, rfl, q2⟩
theorem texts_ex (F : Nat) (hF : 2500 ≤ F) (r : flow_reader) (h : RI r) (a : Int) (h0 : 0 ≤ a) (h1 : a < r.end_) : ∃ j, flow_reader_texts F r a = some j ∧ a < j ∧ j ≤ r.end_ := by
 have hn := h.n
 have he := h.e1
 have key0 : ∀ (d n : Nat) (x : Int), a + 1 ≤ x → x ≤ r.end_ → (r.end_ - x).toNat ≤ d → d < n → ∃ j, flow_reader_texts_l0 F r a n x (kd r x) = some j ∧ a < j ∧ j ≤ r.end_ := by
  intro d
  induction d with
  | zero =>
   intro n x hx hx2 hd hn
   obtain ⟨n, rfl⟩ : ∃ m, n = m + 1 := ⟨n - 1, by omega⟩
   have : kd r x = 0 := by unfold kd; rw [if_pos (by omega)]
   rw [flow_reader_texts_l0, if_pos this]
   exact ⟨x, rfl, by omega, hx2⟩
  | succ d ih =>
   intro n x hx hx2 hd hn
   obtain ⟨n, rfl⟩ : ∃ m, n = m + 1 := ⟨n - 1, by omega⟩
   rw [flow_reader_texts_l0]
   by_cases c0 : kd r x = 0
   ·rw [if_pos c0]; exact ⟨x, rfl, by omega, hx2⟩
   have hin := kd_in c0
   rw [if_neg c0, cn_eq]
   simp only [Option.bind_some]
   split
   ·exact ⟨x, rfl, by omega, hx2⟩
   rw [w1 (by omega) (by omega)]
   split
   ·exact ⟨_, rfl, by omega, by omega⟩
   rw [kind_eq F r h]
   simp only [Option.bind_some]
   exact ih n (x + 1) (by omega) (by omega) (by omega) (by omega)
 have key1 : ∀ (d n : Nat) (x : Int), a + 1 ≤ x → x ≤ r.end_ → (r.end_ - x).toNat ≤ d → d < n → ∃ j, flow_reader_texts_l1 F r a n x = some j ∧ a < j ∧ j ≤ r.end_ := by
  intro d
  induction d with
  | zero =>
   intro n x hx hx2 hd hn
   obtain ⟨n, rfl⟩ : ∃ m, n = m + 1 := ⟨n - 1, by omega⟩
   have : kd r x = 0 := by unfold kd; rw [if_pos (by omega)]
   rw [flow_reader_texts_l1, kind_eq F r h]
   simp only [Option.bind_some]
   rw [if_neg (by omega)]
   exact ⟨x, rfl, by omega, hx2⟩
  | succ d ih =>
   intro n x hx hx2 hd hn
   obtain ⟨n, rfl⟩ : ∃ m, n = m + 1 := ⟨n - 1, by omega⟩
   rw [flow_reader_texts_l1, kind_eq F r h]
   simp only [Option.bind_some]
   by_cases c : kd r x = 19
   ·have hin := kd_in (r := r) (i := x) (by omega)
    rw [if_pos c, w1 (by omega) (by omega)]
    exact ih n (x + 1) (by omega) (by omega) (by omega) (by omega)
   ·rw [if_neg c]; exact ⟨x, rfl, by omega, hx2⟩
 unfold flow_reader_texts
 rw [w1 h0 (by omega), kind_eq F r h]
 simp only [Option.bind_some]
 obtain ⟨j, q1, q2, q3⟩ := key0 (r.end_ - (a + 1)).toNat F (a + 1) (Int.le_refl _) (by omega) (Nat.le_refl _) (by omega)
 rw [q1]
 simp only [Option.bind_some, kind_eq F r h]
 split
 ·obtain ⟨k, z1, z2⟩ := key1 (r.end_ - j).toNat F j (by omega) q3 (Nat.le_refl _) (by omega)
  rw [z1]
  exact ⟨k, rfl, z2⟩
 ·exact ⟨_, rfl, by omega, by omega⟩
theorem key_ex (F : Nat) (hF : 2500 ≤ F) (r : flow_reader) (h : RI r) (a : Int) (h0 : 0 ≤ a) (h1 : a ≤ 1500) : ∃ j, flow_reader_key F r a = some j ∧ (j = -1 ∨ (a ≤ j ∧ j < r.end_)) := by
 have hn := h.n
 have he := h.e1
 have key : ∀ (d n : Nat) (x : Int), a ≤ x → x ≤ 1600 → (r.end_ - x).toNat ≤ d → d < n → ∃ j, flow_reader_key_l0 F r a n x = some j ∧ a ≤ j ∧ j ≤ 1600 := by
  intro d
  induction d with
  | zero =>
   intro n x hx hx2 hd hn
   obtain ⟨n, rfl⟩ : ∃ m, n = m + 1 := ⟨n - 1, by omega⟩
   have : kd r x = 0 := by unfold kd; rw [if_pos (by omega)]
   rw [flow_reader_key_l0, kind_eq F r h]
   simp only [Option.bind_some, prop_eq, decide_eq_true_eq]
   rw [if_neg (by omega)]
   exact ⟨x, rfl, hx, hx2⟩
  | succ d ih =>
   intro n x hx hx2 hd hn
   obtain ⟨n, rfl⟩ : ∃ m, n = m + 1 := ⟨n - 1, by omega⟩
   rw [flow_reader_key_l0, kind_eq F r h]
   simp only [Option.bind_some, prop_eq, decide_eq_true_eq]
   by_cases c : kd r x = 12 ∨ kd r x = 14
   ·have hin := kd_in (r := r) (i := x) (by omega)
    rw [if_pos c, w1 (by omega) (by omega)]
    obtain ⟨j, q1, q2, q3, _⟩ := past_ex F hF r h (x + 1) (by omega) (by omega)
    rw [q1]
    simp only [Option.bind_some]
    exact ih n j (by omega) (by omega) (by omega) (by omega)
   ·rw [if_neg c]; exact ⟨x, rfl, hx, hx2⟩
 unfold flow_reader_key
 obtain ⟨j, q1, q2, q3⟩ := key (r.end_ - a).toNat F a (Int.le_refl _) (by omega) (Nat.le_refl _) (by omega)
 rw [q1]
 simp only [Option.bind_some, kind_eq F r h]
 obtain ⟨b, hb⟩ := name_ex F (kd r j)
 rw [hb]
 simp only [Option.bind_some]
 have fin : ∀ z : Int, a ≤ z → ∃ y, (if kd r z = (6 : Int) then (some z : Option Int) else some (-1)) = some y ∧ (y = -1 ∨ (a ≤ y ∧ y < r.end_)) := by
  intro z hz
  by_cases c : kd r z = 6
  ·have hin := kd_in (r := r) (i := z) (by omega)
   rw [if_pos c]; exact ⟨z, rfl, .inr ⟨hz, hin.2⟩⟩
  ·rw [if_neg c]; exact ⟨_, rfl, .inl rfl⟩
 cases b with
 | true =>
  obtain ⟨z, p1, p2, _⟩ := past_ex F hF r h (j + 1) (by omega) (by omega)
  rw [if_pos rfl, w1 (by omega) (by omega), p1]
  simp only [Option.bind_some, kind_eq F r h]
  exact fin z (by omega)
 | false =>
  simp only [Bool.false_eq_true, if_false, Option.bind_some, kind_eq F r h]
  exact fin j q2
theorem stray_ex (F : Nat) (hF : 2500 ≤ F) (r : flow_reader) (h : RI r) (a : Int) (hk : kd r a ≠ 0) (hc : cn (kd r a) = true) (hm : ¬ (kd r a = 20 ∨ kd r a = 21)) (h7 : kd r a ≠ 7) (he2 : ¬ (kd r a = 10 ∨ kd r a = 11)) : ∃ j, flow_reader_stray F r a = some j ∧ a < j ∧ j ≤ r.end_ := by
 have hn := h.n
 have he := h.e1
 have hin := kd_in hk
 have key : ∀ (d n : Nat) (x o : Int), a ≤ x → x ≤ r.end_ → (r.end_ - x).toNat ≤ d → d < n → o ≤ x - a → -(x - a) ≤ o → (x = a → o = 0) → ∃ j, flow_reader_stray_l0 F r a n o x = some j ∧ a < j ∧ j ≤ r.end_ := by
  intro d
  induction d with
  | zero =>
   intro n x o hx hx2 hd hn h3 h4 h5
   obtain ⟨n, rfl⟩ : ∃ m, n = m + 1 := ⟨n - 1, by omega⟩
   rw [flow_reader_stray_l0, if_neg (by omega)]
   exact ⟨x, rfl, by omega, hx2⟩
  | succ d ih =>
   intro n x o hx hx2 hd hn h3 h4 h5
   obtain ⟨n, rfl⟩ : ∃ m, n = m + 1 := ⟨n - 1, by omega⟩
   rw [flow_reader_stray_l0]
   by_cases c : x < r.end_
   case neg => rw [if_neg c]; exact ⟨x, rfl, by omega, hx2⟩
   have hw : w64 (x + 1) = x + 1 := w1 (by omega) (by omega)
   have hw2 : w64 (o + 1) = o + 1 := w64_eq (by omega) (by omega)
   rw [if_pos c]
   simp only [kind_eq F r h, Option.bind_some, opens_eq, ends_eq, mark_eq, decide_eq_true_eq, hw, hw2]
   by_cases c3 : kd r x = 20 ∨ kd r x = 21
   ·rw [if_pos c3]
    have hax : a < x := by
     rcases Int.lt_or_eq_of_le hx with q | q
     ·exact q
     ·subst q; exact absurd c3 hm
    exact ⟨x, rfl, hax, hx2⟩
   rw [if_neg c3]
   have go : ∃ j, ((if kd r x = 8 ∨ kd r x = 9 then (some (o + 1) : Option Int) else some o).bind fun x18156 =>
       (if kd r x = 10 ∨ kd r x = 11 then (some (w64 (x18156 - 1)) : Option Int) else some x18156).bind fun x18171 => flow_reader_stray_l0 F r a n x18171 (x + 1)) = some j ∧ a < j ∧ j ≤ r.end_ := by
    by_cases c4 : kd r x = 8 ∨ kd r x = 9
    ·rw [if_pos c4]
     simp only [Option.bind_some]
     rw [if_neg (by omega)]
     simp only [Option.bind_some]
     exact ih n (x + 1) (o + 1) (by omega) (by omega) (by omega) (by omega) (by omega) (by omega) (by omega)
    ·rw [if_neg c4]
     simp only [Option.bind_some]
     have hw3 : w64 (o - 1) = o - 1 := w64_eq (by omega) (by omega)
     by_cases c5 : kd r x = 10 ∨ kd r x = 11
     ·rw [if_pos c5, hw3]
      simp only [Option.bind_some]
      exact ih n (x + 1) (o - 1) (by omega) (by omega) (by omega) (by omega) (by omega) (by omega) (by omega)
     ·rw [if_neg c5]
      simp only [Option.bind_some]
      exact ih n (x + 1) o (by omega) (by omega) (by omega) (by omega) (by omega) (by omega) (by omega)
   by_cases c0 : o = 0
   ·rw [if_pos c0]
    by_cases c1 : kd r x = 7
    ·rw [if_pos c1]
     simp only [Option.bind_some]
     refine ⟨x, rfl, ?_, hx2⟩
     rcases Int.lt_or_eq_of_le hx with q | q
     ·exact q
     ·subst q; exact absurd c1 h7
    rw [if_neg c1]
    by_cases c2 : kd r x = 10 ∨ kd r x = 11
    ·rw [if_pos c2]
     simp only [Option.bind_some]
     refine ⟨x, rfl, ?_, hx2⟩
     rcases Int.lt_or_eq_of_le hx with q | q
     ·exact q
     ·subst q; exact absurd c2 he2
    ·rw [if_neg c2]
     simp only [Option.bind_some]
     exact go
   ·rw [if_neg c0]
    simp only [Option.bind_some]
    exact go
 unfold flow_reader_stray
 obtain ⟨j, q1, q2, q3⟩ := key (r.end_ - a).toNat F a 0 (Int.le_refl _) (by omega) (Nat.le_refl _) (by omega) (by omega) (by omega) (fun _ => rfl)
 rw [q1]
 simp only [Option.bind_some]
 obtain ⟨k, z1, z2, z3, z4⟩ := over_ex F hF r h a j (by omega) (by omega) q3
 rw [z1]
 exact ⟨k, rfl, z4 q2 hc, by omega⟩
end Go.Proofs.Ytahcngeimlkcgaa.M
