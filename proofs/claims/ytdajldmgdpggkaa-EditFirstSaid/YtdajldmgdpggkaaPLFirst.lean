/- EditFirst, plainly. -/
import Derived.Test.YtdajldmgdpggkaaP4D
import Derived.Test.YtdajldmgdpggkaaMLFirst0
namespace Go.Proofs.Ytdajldmgdpggkaa.M
open Go Am Sy
set_option linter.unusedVariables false
set_option linter.unusedSimpArgs false
theorem has_l0 (F : Nat) (l : List api_Edit) (e : api_Edit) : ∀ (s p : List api_Edit) (m : Nat), l = p ++ s → s.length < m → l.length ≤ 1000 →
    (e ∈ s ∧ correctorlaw4_has_l0 F l e m e (p.length : Int) = some (.inr true)) ∨ (e ∉ s ∧ correctorlaw4_has_l0 F l e m e (p.length : Int) = some (.inl ())) := by
  intro s
  induction s with
  | nil =>
    intro p m h1 h2 h3
    obtain ⟨m, rfl⟩ : ∃ k, m = k + 1 := ⟨m - 1, by omega⟩
    subst h1
    rw [correctorlaw4_has_l0, if_neg (by simp)]
    exact .inr ⟨by simp, rfl⟩
  | cons x s ih =>
    intro p m h1 h2 h3
    obtain ⟨m, rfl⟩ : ∃ k, m = k + 1 := ⟨m - 1, by simp at h2; omega⟩
    subst h1
    simp only [List.length_cons, List.length_append] at h2 h3
    rw [correctorlaw4_has_l0, if_pos (mid_lt p s x).2]
    simp only [if_pos (mid_lt p s x), get_mid, Option.bind_some]
    by_cases h : x = e
    · subst h
      rw [if_pos rfl]
      exact .inl ⟨List.mem_cons_self, rfl⟩
    · rw [if_neg h, step_mid p x (by omega)]
      rcases ih (p ++ [x]) m (by simp) (by omega) (by simp; omega) with ⟨q1, q2⟩ | ⟨q1, q2⟩
      · exact .inl ⟨List.mem_cons_of_mem _ q1, q2⟩
      · exact .inr ⟨fun q => by rcases List.mem_cons.1 q with q | q; exact h q.symm; exact q1 q, q2⟩
theorem has_eq (F : Nat) (l : List api_Edit) (e : api_Edit) (hl : l.length ≤ 1000) (hF : 2000 < F) : correctorlaw4_has F l e = some (decide (e ∈ l)) := by
  unfold correctorlaw4_has
  have := has_l0 F l e l [] F rfl (by omega) hl
  rw [show (([] : List api_Edit).length : Int) = 0 from rfl] at this
  rcases this with ⟨q1, q2⟩ | ⟨q1, q2⟩
  · rw [q2, decide_eq_true q1]; rfl
  · rw [q2, decide_eq_false q1]; rfl
theorem first_l1 (F : Nat) (a0 : Int) (a1 g x : List api_Edit) (e : api_Edit) (i : Nat) (hi : g[i]? = some e) : ∀ (s p : List api_Edit) (m : Nat) (f : Bool), x = p ++ s → s.length < m → x.length ≤ 1000 →
    correctorlaw4_EditFirst_l1 F a0 a1 m g x (i : Int) f (p.length : Int) = some (g, x, (i : Int), f || s.any (uponB e)) := by
  intro s
  induction s with
  | nil =>
    intro p m f h1 h2 h3
    obtain ⟨m, rfl⟩ : ∃ k, m = k + 1 := ⟨m - 1, by omega⟩
    subst h1
    rw [correctorlaw4_EditFirst_l1, if_neg (by simp)]
    simp
  | cons y s ih =>
    intro p m f h1 h2 h3
    obtain ⟨m, rfl⟩ : ∃ k, m = k + 1 := ⟨m - 1, by simp at h2; omega⟩
    subst h1
    simp only [List.length_cons, List.length_append] at h2 h3
    have hil : i < g.length := (List.getElem?_eq_some_iff.1 hi).1
    have hi2 : (0 : Int) ≤ (i : Int) ∧ (i : Int) < (g.length : Int) := by omega
    have hi' : g[((i : Nat) : Int).toNat]? = some e := by rw [get_nat]; exact hi
    have hgo : ∀ b : Bool, correctorlaw4_EditFirst_l1 F a0 a1 m g (p ++ y :: s) (i : Int) b (w64 ((p.length : Int) + 1)) = some (g, p ++ y :: s, (i : Int), b || s.any (uponB e)) := fun b => by
      rw [step_mid p y (by omega)]
      exact ih (p ++ [y]) m b (by simp) (by omega) (by simp; omega)
    rw [correctorlaw4_EditFirst_l1, if_pos (mid_lt p s y).2]
    simp only [if_pos hi2, hi', if_pos (mid_lt p s y), get_mid, Option.bind_some, List.any_cons]
    cases f with
    | true =>
      rw [if_pos rfl]
      simp only [Option.bind_some]
      rw [hgo]; simp
    | false =>
      rw [if_neg (by decide)]
      have key : ∀ b : Bool, uponB e y = b → ((some (g, p ++ y :: s, b) : Option ((List api_Edit) × (List api_Edit) × Bool)).bind fun o => match o with
        | (x18776, x18779, x18782) => correctorlaw4_EditFirst_l1 F a0 a1 m x18776 x18779 (i : Int) x18782 (w64 ((p.length : Int) + 1))) = some (g, p ++ y :: s, (i : Int), false || (uponB e y || s.any (uponB e))) := fun b hb => by
        simp only [Option.bind_some]
        rw [hgo, hb]; simp
      unfold uponB at key
      by_cases h1 : e.From < y.To
      · rw [if_pos h1]
        by_cases h2 : y.From < e.To
        · rw [if_pos h2]; exact key true (decide_eq_true (by omega))
        · rw [if_neg h2]
          by_cases h3 : e.From = y.From
          · rw [if_pos h3]
            by_cases h4 : e.To = y.To
            · rw [if_pos h4]; exact key true (decide_eq_true (by omega))
            · rw [if_neg h4]; exact key false (decide_eq_false (by omega))
          · rw [if_neg h3]; exact key false (decide_eq_false (by omega))
      · rw [if_neg h1]
        by_cases h3 : e.From = y.From
        · rw [if_pos h3]
          by_cases h4 : e.To = y.To
          · rw [if_pos h4]; exact key true (decide_eq_true (by omega))
          · rw [if_neg h4]; exact key false (decide_eq_false (by omega))
        · rw [if_neg h3]; exact key false (decide_eq_false (by omega))
theorem first_l0 (F : Nat) (a0 : Int) (a1 g x : List api_Edit) (hg : g.length ≤ 1000) (hx : x.length ≤ 1000) (hF : 2000 < F) (hall : ∀ e ∈ g, e ∈ x ∨ x.any (uponB e) = true) : ∀ (s p : List api_Edit) (m : Nat), g = p ++ s → s.length < m →
    correctorlaw4_EditFirst_l0 F a0 a1 m g x (p.length : Int) = some (.inl ()) := by
  intro s
  induction s with
  | nil =>
    intro p m h1 h2
    obtain ⟨m, rfl⟩ : ∃ k, m = k + 1 := ⟨m - 1, by omega⟩
    subst h1
    rw [correctorlaw4_EditFirst_l0, if_neg (by simp)]
  | cons e s ih =>
    intro p m h1 h2
    obtain ⟨m, rfl⟩ : ∃ k, m = k + 1 := ⟨m - 1, by simp at h2; omega⟩
    subst h1
    simp only [List.length_cons, List.length_append] at h2 hg
    rw [correctorlaw4_EditFirst_l0, if_pos (mid_lt p s e).2]
    simp only [if_pos (mid_lt p s e), get_mid, Option.bind_some, has_eq F x e hx hF]
    have h1' := first_l1 F a0 a1 (p ++ e :: s) x e p.length (by simp) x [] F (decide (e ∈ x)) rfl (by omega) hx
    rw [show (([] : List api_Edit).length : Int) = 0 from rfl] at h1'
    rw [h1']
    simp only [Option.bind_some]
    have : (decide (e ∈ x) || x.any (uponB e)) = true := by
      rcases hall e (by simp) with q | q
      · rw [decide_eq_true q]; rfl
      · rw [q]; simp
    rw [if_pos this, step_mid p e (by omega)]
    exact ih (p ++ [e]) m (by simp) (by omega)
/-- Each one is kept, or lies upon one that is. -/
theorem edL_all (n : Int) : ∀ (s out : List api_Edit), (∀ e ∈ s, oneV n e = 0) → out.length + s.length ≤ 200 → (∀ x ∈ out, x ∈ edL n out s) ∧ ∀ e ∈ s, e ∈ edL n out s ∨ (edL n out s).any (uponB e) = true := by
  intro s
  induction s with
  | nil => intro out h1 h2; exact ⟨fun x hx => hx, fun e he => by cases he⟩
  | cons x s ih =>
    intro out h1 h2
    simp only [List.length_cons] at h2
    simp only [edL]
    rw [if_neg (by omega)]
    by_cases h : freeB n out x = true
    · rw [if_pos h]
      obtain ⟨q1, q2⟩ := ih (out ++ [x]) (fun e he => h1 e (List.mem_cons_of_mem _ he)) (by simp; omega)
      refine ⟨fun y hy => q1 y (List.mem_append_left _ hy), fun e he => ?_⟩
      rcases List.mem_cons.1 he with rfl | he
      · exact .inl (q1 e (by simp))
      · exact q2 e he
    · rw [if_neg h]
      obtain ⟨q1, q2⟩ := ih out (fun e he => h1 e (List.mem_cons_of_mem _ he)) (by omega)
      refine ⟨q1, fun e he => ?_⟩
      rcases List.mem_cons.1 he with rfl | he
      · right
        have : out.any (uponB e) = true := by
          cases ha : out.any (uponB e) with
          | true => rfl
          | false => exact absurd (by unfold freeB; rw [ha, decide_eq_true (h1 e List.mem_cons_self)]; rfl) h
        obtain ⟨y, hy, hu⟩ := List.any_eq_true.1 this
        exact List.any_eq_true.2 ⟨y, q1 y hy, hu⟩
      · exact q2 e he
theorem first_holds (F : Nat) (n : Int) (l : List api_Edit) (hl : l.length ≤ 9223372036854775807) (hF : l.length + 3000 ≤ F) : correctorlaw4_EditFirst F n l = some true := by
  unfold correctorlaw4_EditFirst
  rw [known_eq F (by omega)]
  simp only [Option.bind_some, if_true]
  obtain ⟨w, hw, hw2⟩ := few_eq F l hl (by omega)
  rw [hw]
  simp only [Option.bind_some]
  cases w with
  | false => rfl
  | true =>
    have h3 := hw2 rfl
    obtain ⟨q1, q2⟩ := wi_range n 60 (by omega)
    rw [if_pos rfl, within_eq F _ _ (by omega) (by omega)]
    simp only [Option.bind_some]
    generalize wi n 60 = N at *
    have hg := goodL_len N l
    have hone : ∀ e ∈ goodL N l, oneV N e = 0 := fun e he => by
      obtain ⟨a1, a2, a3, a4⟩ := goodL_ok q1 l e he
      exact oneV_zero.2 ⟨a1, a2, a3, by omega⟩
    rw [good_eq F N l q1 (by omega) h3 (by omega)]
    simp only [Option.bind_some]
    obtain ⟨x, r1, r2, r3, r4⟩ := choose_eq F N (goodL N l) (by omega) (by omega)
    rw [r1]
    simp only [Option.bind_some]
    obtain ⟨s1, s2⟩ := edL_all N (goodL N l) [] hone (by simp; omega)
    have hall : ∀ e ∈ goodL N l, e ∈ x ∨ x.any (uponB e) = true := fun e he => by
      rcases s2 e he with q | q
      · exact .inl (r3.mem_iff.2 q)
      · right; rw [any_perm r3]; exact q
    have hx := r4.1
    have hl0 := first_l0 F n l (goodL N l) x (by omega) (by omega) (by omega) hall (goodL N l) [] F rfl (by omega)
    rw [show (([] : List api_Edit).length : Int) = 0 from rfl] at hl0
    cases hgl : goodL N l with
    | nil =>
      rw [hgl] at hl0
      rw [if_neg (by simp)]
      simp only [Option.bind_some]
      rw [hl0]; rfl
    | cons g0 gs =>
      have hin : g0 ∈ x := by
        refine r3.mem_iff.2 ?_
        have hone0 := hone
        rw [hgl] at hone0 ⊢
        rw [hgl] at hg
        simp only [List.length_cons] at hg
        have hf : freeB N [] g0 = true := by unfold freeB; rw [decide_eq_true (hone0 g0 List.mem_cons_self)]; rfl
        have := (edL_all N gs ([] ++ [g0]) (fun e he => hone0 e (List.mem_cons_of_mem _ he)) (by simp; omega)).1 g0 (by simp)
        simp only [edL]
        rw [if_neg (by simp), if_pos hf]
        exact this
      have hx0 : 0 < x.length := List.length_pos_of_mem hin
      rw [hgl] at hl0
      rw [if_pos (by simp), if_neg (by omega), if_pos (by simp)]
      have e0 : (g0 :: gs)[(0 : Int).toNat]? = some g0 := rfl
      rw [e0]
      simp only [Option.bind_some]
      rw [has_eq F x g0 (by omega) (by omega), decide_eq_true hin]
      simp only [Option.bind_some, if_true]
      rw [hl0]; rfl
end Go.Proofs.Ytdajldmgdpggkaa.M
