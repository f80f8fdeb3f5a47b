/- Edit, plainly: edits done, places told, edits made good; the document's own. -/
import Derived.Test.YtdajldmgdpggkaaP4A
import Derived.Test.YtdajldmgdpggkaaMF0
namespace Go.Proofs.Ytdajldmgdpggkaa.M
open Go Am Sy
set_option linter.unusedVariables false
set_option linter.unusedSimpArgs false

theorem few_l0 (F : Nat) (l : List api_Edit) (hl : l.length ≤ 9223372036854775807) : ∀ (s p : List api_Edit) (m : Nat) (x : Int), l = p ++ s → s.length < m → ∃ r, correctorlaw4_Few_l0 F l m x (p.length : Int) = some r := by
  intro s
  induction s with
  | nil =>
    intro p m x h1 h2
    obtain ⟨m, rfl⟩ : ∃ k, m = k + 1 := ⟨m - 1, by omega⟩
    subst h1
    rw [correctorlaw4_Few_l0, if_neg (by simp)]
    exact ⟨_, rfl⟩
  | cons e s ih =>
    intro p m x h1 h2
    obtain ⟨m, rfl⟩ : ∃ k, m = k + 1 := ⟨m - 1, by simp at h2; omega⟩
    simp only [List.length_cons] at h2
    subst h1
    rw [correctorlaw4_Few_l0, if_pos (mid_lt p s e).2, if_pos (mid_lt p s e), get_mid]
    simp only [Option.bind_some]
    have hw : w64 ((p.length : Int) + 1) = ((p ++ [e]).length : Int) := by
      simp only [List.length_append, List.length_cons] at hl
      rw [w64_eq (by omega) (by omega)]; simp
    rw [hw]
    exact ih (p ++ [e]) m _ (by simp) (by omega)
theorem few_eq (F : Nat) (l : List api_Edit) (hl : l.length ≤ 9223372036854775807) (hF : l.length < F) : ∃ b, correctorlaw4_Few F l = some b ∧ (b = true → l.length ≤ 210) := by
  unfold correctorlaw4_Few
  obtain ⟨r, hr⟩ := few_l0 F l hl l [] F 0 rfl hF
  simp only [List.length_nil] at hr
  rw [show ((0 : Nat) : Int) = 0 from rfl] at hr
  rw [hr]
  simp only [Option.bind_some]
  by_cases h : (l.length : Int) ≤ 210
  · rw [if_pos h]
    split
    · exact ⟨_, rfl, fun _ => by omega⟩
    · exact ⟨_, rfl, fun h => by cases h⟩
  · rw [if_neg h]
    exact ⟨_, rfl, fun h => by cases h⟩
/-- An edit made good. -/
def goodV (n : Int) (e : api_Edit) : api_Edit := ⟨wi e.From (n + 1), wi e.From (n + 1) + wi e.To (imin (n - wi e.From (n + 1)) 6 + 1), ⟨e.Put.b.take 20⟩⟩
theorem goodV_ok {n : Int} (hn : 0 ≤ n) (e : api_Edit) : 0 ≤ (goodV n e).From ∧ (goodV n e).From ≤ (goodV n e).To ∧ (goodV n e).To ≤ n ∧ (goodV n e).Put.b.length ≤ 20 := by
  obtain ⟨h1, h2⟩ := wi_range e.From (n + 1) (by omega)
  have h3 : 0 ≤ imin (n - wi e.From (n + 1)) 6 ∧ imin (n - wi e.From (n + 1)) 6 ≤ n - wi e.From (n + 1) := by unfold imin; split <;> omega
  obtain ⟨h4, h5⟩ := wi_range e.To (imin (n - wi e.From (n + 1)) 6 + 1) (by omega)
  refine ⟨h1, ?_, ?_, ?_⟩
  · show wi e.From (n + 1) ≤ wi e.From (n + 1) + _; omega
  · show wi e.From (n + 1) + _ ≤ n; omega
  · show (e.Put.b.take 20).length ≤ 20; simp; omega
theorem take_imin (b : List UInt8) : (b.take (imin (b.length : Int) 20).toNat).drop (0 : Int).toNat = b.take 20 := by
  have : (0 : Int).toNat = 0 := rfl
  rw [this, List.drop_zero]
  unfold imin
  split
  · rfl
  · rename_i h
    rw [Int.toNat_natCast, List.take_length, List.take_of_length_le (by omega)]
theorem good_l0 (F : Nat) (n : Int) (hn : 0 ≤ n) (hn2 : n ≤ 1000000) : ∀ (s p acc : List api_Edit) (m : Nat), s.length < m → (p ++ s).length ≤ 1000000 → acc.length ≤ p.length → p.length ≤ 30 →
    correctorlaw4_Good_l0 F n (p ++ s) m acc (p.length : Int) = some (acc ++ (s.take (30 - p.length)).map (goodV n)) := by
  intro s
  induction s with
  | nil =>
    intro p acc m h1 h2 h3 h4
    obtain ⟨m, rfl⟩ : ∃ k, m = k + 1 := ⟨m - 1, by omega⟩
    rw [correctorlaw4_Good_l0, if_neg (by simp)]
    simp
  | cons e s ih =>
    intro p acc m h1 h2 h3 h4
    obtain ⟨m, rfl⟩ : ∃ k, m = k + 1 := ⟨m - 1, by simp at h1; omega⟩
    simp only [List.length_cons] at h1
    rw [correctorlaw4_Good_l0, if_pos (mid_lt p s e).2]
    by_cases h5 : p.length < 30
    · rw [if_pos (by omega), if_pos (mid_lt p s e), get_mid]
      simp only [Option.bind_some]
      have e1 : w64 (n + 1) = n + 1 := w64_eq (by omega) (by omega)
      obtain ⟨q1, q2⟩ := wi_range e.From (n + 1) (by omega)
      have e2 : w64 (n - wi e.From (n + 1)) = n - wi e.From (n + 1) := w64_eq (by omega) (by omega)
      have q3 : 0 ≤ imin (n - wi e.From (n + 1)) 6 ∧ imin (n - wi e.From (n + 1)) 6 ≤ 6 := by unfold imin; split <;> omega
      have e3 : w64 (imin (n - wi e.From (n + 1)) 6 + 1) = imin (n - wi e.From (n + 1)) 6 + 1 := w64_eq (by omega) (by omega)
      obtain ⟨q4, q5⟩ := wi_range e.To (imin (n - wi e.From (n + 1)) 6 + 1) (by omega)
      have e4 : w64 (wi e.From (n + 1) + wi e.To (imin (n - wi e.From (n + 1)) 6 + 1)) = wi e.From (n + 1) + wi e.To (imin (n - wi e.From (n + 1)) 6 + 1) := w64_eq (by omega) (by omega)
      rw [e1, within_eq F _ _ (by omega) (by omega)]
      simp only [Option.bind_some]
      rw [if_pos (mid_lt p s e), e2, e3, within_eq F _ _ (by omega) (by omega)]
      simp only [Option.bind_some]
      rw [if_pos (mid_lt p s e), if_pos (mid_lt p s e), if_pos ⟨Int.le_refl _, by unfold imin; split <;> omega, by unfold imin; split <;> omega⟩, if_pos (by simp; omega), e4, take_imin, step_mid p e (by omega)]
      have := ih (p ++ [e]) (acc ++ [goodV n e]) m (by omega) (by rw [app_mid]; exact h2) (by simp; omega) (by simp; omega)
      rw [app_mid] at this
      rw [show (⟨wi e.From (n + 1), wi e.From (n + 1) + wi e.To (imin (n - wi e.From (n + 1)) 6 + 1), ⟨e.Put.b.take 20⟩⟩ : api_Edit) = goodV n e from rfl, this]
      have h6 : 30 - p.length = (30 - (p ++ [e]).length) + 1 := by simp; omega
      rw [h6, List.take_succ_cons]
      simp
    · rw [if_neg (by omega)]
      have : 30 - p.length = 0 := by omega
      rw [this]; simp
def goodL (n : Int) (l : List api_Edit) : List api_Edit := (l.take 30).map (goodV n)
theorem good_eq (F : Nat) (n : Int) (l : List api_Edit) (hn : 0 ≤ n) (hn2 : n ≤ 1000000) (hl : l.length ≤ 210) (hF : 300 < F) : correctorlaw4_Good F n l = some (goodL n l) := by
  unfold correctorlaw4_Good
  have := good_l0 F n hn hn2 l [] [] F (by omega) (by simp; omega) (by simp) (by simp)
  simp only [List.nil_append, List.length_nil] at this
  rw [show ((0 : Nat) : Int) = 0 from rfl] at this
  rw [this]
  rfl
theorem goodL_len (n : Int) (l : List api_Edit) : (goodL n l).length ≤ 30 := by unfold goodL; simp; omega
theorem goodL_ok {n : Int} (hn : 0 ≤ n) (l : List api_Edit) : ∀ e ∈ goodL n l, 0 ≤ e.From ∧ e.From ≤ e.To ∧ e.To ≤ n ∧ e.Put.b.length ≤ 20 := by
  intro e he
  obtain ⟨x, _, rfl⟩ := List.mem_map.1 he
  exact goodV_ok hn x
/-- What edits put, and what they leave. -/
def outL (b : List UInt8) : Int → List api_Edit → List UInt8
  | _, [] => []
  | t, e :: s => ((b.take e.From.toNat).drop t.toNat ++ e.Put.b) ++ outL b e.To s
def lastTo : Int → List api_Edit → Int
  | t, [] => t
  | _, e :: s => lastTo e.To s
def doneL (b : List UInt8) (l : List api_Edit) : List UInt8 := outL b 0 l ++ b.drop (lastTo 0 l).toNat
theorem lastTo_ok {n : Int} : ∀ (s : List api_Edit) (t : Int), 0 ≤ t → t ≤ n → Fine n t s → 0 ≤ lastTo t s ∧ lastTo t s ≤ n := by
  intro s
  induction s with
  | nil => intro t h0 h1 _; exact ⟨h0, h1⟩
  | cons e s ih => intro t h0 h1 ⟨a1, a2, a3, a4, a5⟩; exact ih e.To (by omega) a3 a5
theorem outL_len {b : List UInt8} : ∀ (s : List api_Edit) (t : Int), Fine b.length t s → (outL b t s).length ≤ s.length * (b.length + 1000) := by
  intro s
  induction s with
  | nil => intro t _; simp [outL]
  | cons e s ih =>
    intro t ⟨a1, a2, a3, a4, a5⟩
    have := ih e.To a5
    simp only [outL, List.length_append, List.length_cons, Nat.succ_mul, List.length_drop, List.length_take]
    omega
theorem apply_l0 (F : Nat) (b : List UInt8) (hb : b.length ≤ 1000000) : ∀ (s p : List api_Edit) (acc : List UInt8) (t : Int) (m : Nat), s.length < m → (p ++ s).length ≤ 1000 → 0 ≤ t → t ≤ b.length → Fine b.length t s → acc.length ≤ p.length * 2000000 →
    edit_Apply_l0 F b (p ++ s) m acc t (p.length : Int) = some (acc ++ outL b t s, lastTo t s) := by
  intro s
  induction s with
  | nil =>
    intro p acc t m h1 h2 h3 h4 h5 h6
    obtain ⟨m, rfl⟩ : ∃ k, m = k + 1 := ⟨m - 1, by omega⟩
    rw [edit_Apply_l0, if_neg (by simp)]
    simp [outL, lastTo]
  | cons e s ih =>
    intro p acc t m h1 h2 h3 h4 h5 h6
    obtain ⟨m, rfl⟩ : ∃ k, m = k + 1 := ⟨m - 1, by simp at h1; omega⟩
    simp only [List.length_cons, List.length_append] at h1 h2
    obtain ⟨a1, a2, a3, a4, a5⟩ := h5
    have hl : ((b.take e.From.toNat).drop t.toNat).length ≤ b.length := by simp; omega
    have hl2 : (acc ++ (b.take e.From.toNat).drop t.toNat).length = acc.length + ((b.take e.From.toNat).drop t.toNat).length := List.length_append
    rw [edit_Apply_l0, if_pos (mid_lt p s e).2, if_pos (mid_lt p s e), get_mid]
    simp only [Option.bind_some]
    rw [if_pos ⟨h3, a1, by omega⟩, if_pos (by omega), if_pos (by omega), step_mid p e (by omega)]
    have := ih (p ++ [e]) ((acc ++ (b.take e.From.toNat).drop t.toNat) ++ e.Put.b) e.To m (by omega) (by simp; omega) (by omega) (by omega) a5 (by
      rw [List.length_append, hl2, List.length_append, List.length_singleton, Nat.add_mul]; omega)
    rw [app_mid] at this
    rw [this]
    simp [outL, lastTo]
theorem take_all (b : List UInt8) (t : Int) : (b.take (b.length : Int).toNat).drop t.toNat = b.drop t.toNat := by simp
def applyV (b : List UInt8) (l : List api_Edit) : List UInt8 × Int := if checkV b.length l = 0 then (if 16384 < (doneL b l).length then ([], 4) else (doneL b l, 0)) else ([], checkV b.length l)
theorem doneL_len {b : List UInt8} (hb : b.length ≤ 1000000) {l : List api_Edit} (hl : l.length ≤ 200) (hf : Fine b.length 0 l) : (doneL b l).length ≤ 300000000 := by
  unfold doneL
  have h1 := outL_len l 0 hf
  have h2 : l.length * (b.length + 1000) ≤ 200 * 1001000 := Nat.mul_le_mul hl (by omega)
  simp only [List.length_append, List.length_drop]; omega
theorem apply_eq (F : Nat) (b : List UInt8) (l : List api_Edit) (hb : b.length ≤ 1000000) (hF : 300 < F) : edit_Apply F b l = some (applyV b l) := by
  unfold edit_Apply applyV
  rw [check_eq F _ l hF]
  simp only [Option.bind_some]
  by_cases h : checkV b.length l = 0
  · rw [if_pos h, if_pos h]
    obtain ⟨h1, h2⟩ := checkV_fine.1 h
    have := apply_l0 F b hb l [] [] 0 F (by omega) (by simp; omega) (Int.le_refl _) (by omega) h2 (by simp)
    simp only [List.nil_append, List.length_nil] at this
    rw [show ((0 : Nat) : Int) = 0 from rfl] at this
    rw [this]
    obtain ⟨h3, h4⟩ := lastTo_ok l 0 (Int.le_refl _) (by omega) h2
    have h5 := doneL_len hb h1 h2
    have h6 : (outL b 0 l).length ≤ 300000000 := by unfold doneL at h5; rw [List.length_append] at h5; omega
    simp only [Option.bind_some]
    rw [take_all, if_pos ⟨h3, h4, Int.le_refl _⟩, if_pos (by simp; omega)]
    rw [show outL b 0 l ++ b.drop (lastTo 0 l).toNat = doneL b l from rfl]
    by_cases h7 : 16384 < (doneL b l).length
    · rw [if_pos (by omega), if_pos h7]
    · rw [if_neg (by omega), if_neg h7, if_pos (by simp; omega)]
      rfl
  · rw [if_neg h, if_neg h]
/-! ### The document's own -/
theorem rone_eq (F : Nat) (n : Int) (e : api_Edit) : correctorref4_one F n e = some (oneV n e) := one_eq F n e
theorem rcheck_l0 (F : Nat) (n : Int) (l : List api_Edit) : ∀ (m : Nat) (x : Int), correctorref4_Check_l0 F n l m x = edit_Check_l0 F n l m x := by
  intro m
  induction m with
  | zero => intro x; rfl
  | succ m ih =>
    intro x
    rw [correctorref4_Check_l0, edit_Check_l0]
    by_cases h1 : x < (l.length : Int)
    · rw [if_pos h1, if_pos h1]
      by_cases h2 : 0 ≤ x ∧ x < (l.length : Int)
      · simp only [if_pos h2]
        cases hx : l[x.toNat]? with
        | none => rfl
        | some e =>
          simp only [Option.bind_some, rone_eq, one_eq, if_pos h2, ih]
          rfl
      · rw [if_neg h2, if_neg h2]
    · rw [if_neg h1, if_neg h1]
theorem rcheck_eq (F : Nat) (n : Int) (l : List api_Edit) (hF : 300 < F) : correctorref4_Check F n l = some (checkV n l) := by
  rw [← check_eq F n l hF]
  unfold correctorref4_Check edit_Check
  simp only [rcheck_l0]
  rfl
theorem rapply_l0 (F : Nat) (b : List UInt8) (l : List api_Edit) : ∀ (m : Nat) (acc : List UInt8) (t x : Int), correctorref4_Apply_l0 F b l m acc t x = edit_Apply_l0 F b l m acc t x := by
  intro m
  induction m with
  | zero => intro acc t x; rfl
  | succ m ih =>
    intro acc t x
    rw [correctorref4_Apply_l0, edit_Apply_l0]
    by_cases h1 : x < (l.length : Int)
    · rw [if_pos h1, if_pos h1]
      by_cases h2 : 0 ≤ x ∧ x < (l.length : Int)
      · simp only [if_pos h2]
        cases hx : l[x.toNat]? with
        | none => rfl
        | some e => simp only [Option.bind_some, if_pos h2, ih]
      · rw [if_neg h2, if_neg h2]
    · rw [if_neg h1, if_neg h1]
theorem rapply_eq (F : Nat) (b : List UInt8) (l : List api_Edit) (hb : b.length ≤ 1000000) (hF : 300 < F) : correctorref4_Apply F b l = some (applyV b l) := by
  unfold correctorref4_Apply applyV
  rw [rcheck_eq F _ l hF]
  simp only [Option.bind_some]
  by_cases h : checkV b.length l = 0
  · rw [if_pos h, if_pos h]
    obtain ⟨h1, h2⟩ := checkV_fine.1 h
    have := apply_l0 F b hb l [] [] 0 F (by omega) (by simp; omega) (Int.le_refl _) (by omega) h2 (by simp)
    simp only [List.nil_append, List.length_nil] at this
    rw [show ((0 : Nat) : Int) = 0 from rfl, ← rapply_l0] at this
    rw [this]
    obtain ⟨h3, h4⟩ := lastTo_ok l 0 (Int.le_refl _) (by omega) h2
    have h5 := doneL_len hb h1 h2
    have h6 : (outL b 0 l).length ≤ 300000000 := by unfold doneL at h5; rw [List.length_append] at h5; omega
    simp only [Option.bind_some]
    rw [take_all, if_pos ⟨h3, h4, Int.le_refl _⟩, if_pos (by simp; omega)]
    rw [show outL b 0 l ++ b.drop (lastTo 0 l).toNat = doneL b l from rfl]
    by_cases h7 : 16384 < (doneL b l).length
    · rw [if_pos (by omega), if_pos h7]
    · rw [if_neg (by omega), if_neg h7]
  · rw [if_neg h, if_neg h]
/-! ### Places -/
def mapV (a : Int) : Int → List api_Edit → Int
  | by_, [] => a + by_
  | by_, e :: s => if e.To ≤ a then mapV a (by_ + (e.Put.b.length - (e.To - e.From))) s else if e.From < a then e.From + by_ + e.Put.b.length else mapV a by_ s
/-- Numbers that are not too much. -/
def Tame (l : List api_Edit) : Prop := ∀ e ∈ l, 0 ≤ e.From ∧ e.From ≤ 1000000 ∧ 0 ≤ e.To ∧ e.To ≤ 1000000 ∧ e.Put.b.length ≤ 1000000
theorem map_l0 (F : Nat) (a : Int) (h0 : 0 ≤ a) (ha : a ≤ 1000000) : ∀ (s p : List api_Edit) (x : Int) (m : Nat), s.length < m → (p ++ s).length ≤ 1000 → Tame s → -(3000000 * p.length) ≤ x - a → x - a ≤ 3000000 * p.length →
    edit_Map_l0 F (p ++ s) a m x (p.length : Int) = some (.inl (mapV a (x - a) s)) ∨ edit_Map_l0 F (p ++ s) a m x (p.length : Int) = some (.inr (mapV a (x - a) s)) := by
  intro s
  induction s with
  | nil =>
    intro p x m h1 h2 h3 h4 h5
    obtain ⟨m, rfl⟩ : ∃ k, m = k + 1 := ⟨m - 1, by omega⟩
    rw [edit_Map_l0, if_neg (by simp)]
    left
    simp only [mapV]
    congr 2; omega
  | cons e s ih =>
    intro p x m h1 h2 h3 h4 h5
    obtain ⟨m, rfl⟩ : ∃ k, m = k + 1 := ⟨m - 1, by simp at h1; omega⟩
    simp only [List.length_cons, List.length_append] at h1 h2
    obtain ⟨a1, a2, a3, a4, a5⟩ := h3 e List.mem_cons_self
    rw [edit_Map_l0, if_pos (mid_lt p s e).2, if_pos (mid_lt p s e), get_mid]
    simp only [Option.bind_some, mapV]
    have hl : ((p ++ [e]).length : Int) = p.length + 1 := by simp
    by_cases h6 : e.To ≤ a
    · rw [if_pos h6, if_pos h6]
      simp only [Option.bind_some]
      have e1 : w64 (e.To - e.From) = e.To - e.From := w64_eq (by omega) (by omega)
      have e2 : w64 ((e.Put.b.length : Int) - (e.To - e.From)) = (e.Put.b.length : Int) - (e.To - e.From) := w64_eq (by omega) (by omega)
      have e3 : w64 (x + ((e.Put.b.length : Int) - (e.To - e.From))) = x + ((e.Put.b.length : Int) - (e.To - e.From)) := w64_eq (by omega) (by omega)
      rw [e1, e2, e3, step_mid p e (by omega)]
      have := ih (p ++ [e]) (x + ((e.Put.b.length : Int) - (e.To - e.From))) m (by omega) (by simp; omega) (fun y hy => h3 y (List.mem_cons_of_mem _ hy)) (by omega) (by omega)
      rw [app_mid] at this
      rw [show x - a + ((e.Put.b.length : Int) - (e.To - e.From)) = x + ((e.Put.b.length : Int) - (e.To - e.From)) - a by omega]
      exact this
    · rw [if_neg h6, if_neg h6]
      by_cases h7 : e.From < a
      · rw [if_pos h7, if_pos h7]
        right
        have e1 : w64 (x - a) = x - a := w64_eq (by omega) (by omega)
        have e2 : w64 (x - a + e.From) = x - a + e.From := w64_eq (by omega) (by omega)
        have e3 : w64 (x - a + e.From + (e.Put.b.length : Int)) = x - a + e.From + (e.Put.b.length : Int) := w64_eq (by omega) (by omega)
        rw [e1, e2, e3]
        simp only [Option.bind_some]
        congr 2; omega
      · rw [if_neg h7, if_neg h7]
        simp only [Option.bind_some]
        rw [step_mid p e (by omega)]
        have := ih (p ++ [e]) x m (by omega) (by simp; omega) (fun y hy => h3 y (List.mem_cons_of_mem _ hy)) (by omega) (by omega)
        rw [app_mid] at this
        exact this
theorem map_eq (F : Nat) (l : List api_Edit) (a : Int) (h0 : 0 ≤ a) (ha : a ≤ 1000000) (hl : l.length ≤ 1000) (ht : Tame l) (hF : 1000 < F) : edit_Map F l a = some (mapV a 0 l) := by
  unfold edit_Map
  have := map_l0 F a h0 ha l [] a F (by omega) (by simpa using hl) ht (by simp) (by simp)
  simp only [List.nil_append, List.length_nil, Int.sub_self] at this
  rw [show ((0 : Nat) : Int) = 0 from rfl] at this
  rcases this with h | h <;> rw [h] <;> rfl
theorem rmap_l0 (F : Nat) (a : Int) (h0 : 0 ≤ a) (ha : a ≤ 1000000) : ∀ (s p : List api_Edit) (x : Int) (m : Nat), s.length < m → (p ++ s).length ≤ 1000 → Tame s → -(3000000 * p.length) ≤ x → x ≤ 3000000 * p.length →
    (∃ y, correctorref4_Map_l0 F (p ++ s) a m x (p.length : Int) = some (.inl y) ∧ w64 (a + y) = mapV a x s) ∨ correctorref4_Map_l0 F (p ++ s) a m x (p.length : Int) = some (.inr (mapV a x s)) := by
  intro s
  induction s with
  | nil =>
    intro p x m h1 h2 h3 h4 h5
    simp only [List.append_nil] at h2
    obtain ⟨m, rfl⟩ : ∃ k, m = k + 1 := ⟨m - 1, by omega⟩
    rw [correctorref4_Map_l0, if_neg (by simp)]
    left
    exact ⟨x, rfl, w64_eq (by omega) (by omega)⟩
  | cons e s ih =>
    intro p x m h1 h2 h3 h4 h5
    obtain ⟨m, rfl⟩ : ∃ k, m = k + 1 := ⟨m - 1, by simp at h1; omega⟩
    simp only [List.length_cons, List.length_append] at h1 h2
    obtain ⟨a1, a2, a3, a4, a5⟩ := h3 e List.mem_cons_self
    rw [correctorref4_Map_l0, if_pos (mid_lt p s e).2, if_pos (mid_lt p s e), get_mid]
    simp only [Option.bind_some, mapV]
    have hl : ((p ++ [e]).length : Int) = p.length + 1 := by simp
    by_cases h6 : e.To ≤ a
    · rw [if_pos h6, if_pos h6]
      have e1 : w64 (e.To - e.From) = e.To - e.From := w64_eq (by omega) (by omega)
      have e2 : w64 (x + (e.Put.b.length : Int)) = x + (e.Put.b.length : Int) := w64_eq (by omega) (by omega)
      have e3 : w64 (x + (e.Put.b.length : Int) - (e.To - e.From)) = x + ((e.Put.b.length : Int) - (e.To - e.From)) := by rw [w64_eq (by omega) (by omega)]; omega
      rw [e1, e2, e3, step_mid p e (by omega)]
      have := ih (p ++ [e]) (x + ((e.Put.b.length : Int) - (e.To - e.From))) m (by omega) (by simp; omega) (fun y hy => h3 y (List.mem_cons_of_mem _ hy)) (by omega) (by omega)
      rw [app_mid] at this
      exact this
    · rw [if_neg h6, if_neg h6]
      by_cases h7 : e.From < a
      · rw [if_pos h7, if_pos h7]
        right
        have e1 : w64 (e.From + x) = e.From + x := w64_eq (by omega) (by omega)
        have e2 : w64 (e.From + x + (e.Put.b.length : Int)) = e.From + x + (e.Put.b.length : Int) := w64_eq (by omega) (by omega)
        rw [e1, e2]
      · rw [if_neg h7, if_neg h7, step_mid p e (by omega)]
        have := ih (p ++ [e]) x m (by omega) (by simp; omega) (fun y hy => h3 y (List.mem_cons_of_mem _ hy)) (by omega) (by omega)
        rw [app_mid] at this
        exact this
theorem rmap_eq (F : Nat) (l : List api_Edit) (a : Int) (h0 : 0 ≤ a) (ha : a ≤ 1000000) (hl : l.length ≤ 1000) (ht : Tame l) (hF : 1000 < F) : correctorref4_Map F l a = some (mapV a 0 l) := by
  unfold correctorref4_Map
  have := rmap_l0 F a h0 ha l [] 0 F (by omega) (by simpa using hl) ht (by simp) (by simp)
  simp only [List.nil_append, List.length_nil] at this
  rw [show ((0 : Nat) : Int) = 0 from rfl] at this
  rcases this with ⟨y, h, hy⟩ | h
  · rw [h]; simp only [Option.bind_some, hy]
  · rw [h]; rfl
end Go.Proofs.Ytdajldmgdpggkaa.M
