/- Edit, plainly: which ones are kept. -/
import Derived.Test.YtdajldmgdpggkaaP4B
import Derived.Test.YtdajldmgdpggkaaP4V
namespace Go.Proofs.Ytdajldmgdpggkaa.M
open Go Am Sy
set_option linter.unusedVariables false
set_option linter.unusedSimpArgs false

def uponB (a b : api_Edit) : Bool := decide ((a.From < b.To ∧ b.From < a.To) ∨ (a.From = b.From ∧ a.To = b.To))
theorem uponB_comm (a b : api_Edit) : uponB a b = uponB b a := by
  unfold uponB
  congr 1
  apply propext
  constructor <;> intro h <;> omega
theorem upon_eq (F : Nat) (a b : api_Edit) : edit_upon F a b = some (uponB a b) := by
  unfold edit_upon span_Meet uponB
  by_cases h1 : (⟨a.From, a.To⟩ : api_Span) = ⟨b.From, b.To⟩
  · rw [if_pos h1]
    injection h1 with h2 h3
    rw [decide_eq_true (.inr ⟨h2, h3⟩)]
  · rw [if_neg h1]
    have h2 : ¬ (a.From = b.From ∧ a.To = b.To) := fun q => h1 (by rw [q.1, q.2])
    by_cases h3 : a.From < b.To
    · rw [if_pos h3]
      by_cases h4 : b.From < a.To
      · rw [if_pos h4, decide_eq_true (.inl ⟨h3, h4⟩)]; rfl
      · rw [if_neg h4, decide_eq_false (by omega)]; rfl
    · rw [if_neg h3, decide_eq_false (by omega)]; rfl
theorem rupon_eq (F : Nat) (a b : api_Edit) : correctorref4_upon F a b = some (uponB a b) := by
  unfold correctorref4_upon uponB
  by_cases h3 : a.From < b.To
  · rw [if_pos h3]
    by_cases h4 : b.From < a.To
    · rw [if_pos h4, decide_eq_true (.inl ⟨h3, h4⟩)]
    · rw [if_neg h4]
      by_cases h5 : a.From = b.From
      · rw [if_pos h5]
        by_cases h6 : a.To = b.To
        · rw [if_pos h6, decide_eq_true (.inr ⟨h5, h6⟩)]
        · rw [if_neg h6, decide_eq_false (by omega)]
      · rw [if_neg h5, decide_eq_false (by omega)]
  · rw [if_neg h3]
    by_cases h5 : a.From = b.From
    · rw [if_pos h5]
      by_cases h6 : a.To = b.To
      · rw [if_pos h6, decide_eq_true (.inr ⟨h5, h6⟩)]
      · rw [if_neg h6, decide_eq_false (by omega)]
    · rw [if_neg h5, decide_eq_false (by omega)]
theorem index_l0 (F : Nat) (e : api_Edit) : ∀ (s p : List api_Edit) (m : Nat), s.length < m → (p ++ s).length ≤ 100000 →
    (s.any (uponB e) = true ∧ ∃ k : Int, 0 ≤ k ∧ slices_IndexFunc_api_Edit_l0 F (p ++ s) e m (p.length : Int) = some (.inr k)) ∨ (s.any (uponB e) = false ∧ slices_IndexFunc_api_Edit_l0 F (p ++ s) e m (p.length : Int) = some (.inl ())) := by
  intro s
  induction s with
  | nil =>
    intro p m h1 h2
    obtain ⟨m, rfl⟩ : ∃ k, m = k + 1 := ⟨m - 1, by omega⟩
    right
    rw [slices_IndexFunc_api_Edit_l0, if_neg (by simp)]
    exact ⟨rfl, rfl⟩
  | cons x s ih =>
    intro p m h1 h2
    obtain ⟨m, rfl⟩ : ∃ k, m = k + 1 := ⟨m - 1, by simp at h1; omega⟩
    simp only [List.length_cons, List.length_append] at h1 h2
    rw [slices_IndexFunc_api_Edit_l0, if_pos (mid_lt p s x).2, if_pos (mid_lt p s x), get_mid]
    simp only [Option.bind_some, edit_Choose_1, upon_eq, List.any_cons]
    by_cases h : uponB e x = true
    · left
      rw [if_pos h, h]
      exact ⟨rfl, _, by omega, rfl⟩
    · rw [if_neg h, step_mid p x (by omega)]
      have hf : uponB e x = false := by simpa using h
      rw [hf, Bool.false_or]
      have := ih (p ++ [x]) m (by omega) (by simp; omega)
      rw [app_mid] at this
      exact this
theorem contains_eq (F : Nat) (l : List api_Edit) (e : api_Edit) (hl : l.length ≤ 1000) (hF : 2000 < F) : slices_ContainsFunc_api_Edit F l e = some (l.any (uponB e)) := by
  unfold slices_ContainsFunc_api_Edit slices_IndexFunc_api_Edit
  have := index_l0 F e l [] F (by omega) (by simp; omega)
  simp only [List.nil_append, List.length_nil] at this
  rw [show ((0 : Nat) : Int) = 0 from rfl] at this
  rcases this with ⟨h1, k, h2, h3⟩ | ⟨h1, h3⟩
  · rw [h3, h1]; simp only [Option.bind_some]; rw [if_pos h2]
  · rw [h3, h1]; simp only [Option.bind_some]; rw [if_neg (by decide)]
/-- May an edit be taken? -/
def freeB (n : Int) (out : List api_Edit) (e : api_Edit) : Bool := decide (oneV n e = 0) && !(out.any (uponB e))
def edL (n : Int) : List api_Edit → List api_Edit → List api_Edit
  | out, [] => out
  | out, e :: s => edL n (if out.length = 200 then out else if freeB n out e = true then out ++ [e] else out) s
theorem choose_l0 (F : Nat) (n : Int) (hF : 2000 < F) : ∀ (s p out : List api_Edit) (m : Nat), s.length < m → (p ++ s).length ≤ 1000 → out.length ≤ p.length → out.length ≤ 200 → edit_Choose_l0 F n (p ++ s) m out (p.length : Int) = some (edL n out s) := by
  intro s
  induction s with
  | nil =>
    intro p out m h1 h2 h3 h4
    obtain ⟨m, rfl⟩ : ∃ k, m = k + 1 := ⟨m - 1, by omega⟩
    rw [edit_Choose_l0, if_neg (by simp)]
    rfl
  | cons e s ih =>
    intro p out m h1 h2 h3 h4
    obtain ⟨m, rfl⟩ : ∃ k, m = k + 1 := ⟨m - 1, by simp at h1; omega⟩
    simp only [List.length_cons, List.length_append] at h1 h2
    have hstep : ∀ o : List api_Edit, o.length ≤ p.length + 1 → o.length ≤ 200 → edit_Choose_l0 F n (p ++ e :: s) m o ((p ++ [e]).length : Int) = some (edL n o s) := fun o ho ho2 => by
      have := ih (p ++ [e]) o m (by omega) (by simp; omega) (by simp; omega) ho2
      rw [app_mid] at this; exact this
    rw [edit_Choose_l0, if_pos (mid_lt p s e).2, if_pos (mid_lt p s e), get_mid]
    simp only [Option.bind_some, step_mid p e (by omega), one_eq, contains_eq F out e (by omega) hF, edL]
    by_cases h5 : out.length = 200
    · rw [if_pos (by omega), if_pos h5]
      exact hstep out (by omega) h4
    · rw [if_neg (by omega), if_neg h5]
      unfold freeB
      by_cases h6 : oneV n e = 0
      · rw [if_pos h6, decide_eq_true h6, Bool.true_and]
        by_cases h7 : out.any (uponB e) = true
        · rw [if_pos h7, h7, if_neg (by decide)]
          exact hstep out (by omega) h4
        · have hf : out.any (uponB e) = false := by simpa using h7
          rw [if_neg h7, hf, if_pos (by simp; omega), if_pos (by decide)]
          exact hstep (out ++ [e]) (by simp; omega) (by simp; omega)
      · rw [if_neg h6, decide_eq_false h6, Bool.false_and, if_neg (by decide)]
        exact hstep out (by omega) h4
theorem edL_len {n : Int} : ∀ (s out : List api_Edit), out.length ≤ 200 → (edL n out s).length ≤ 200 := by
  intro s
  induction s with
  | nil => intro out h; exact h
  | cons e s ih =>
    intro out h
    simp only [edL]
    apply ih
    split
    · exact h
    · split
      · simp; omega
      · exact h
/-- What is kept: nothing lies upon another one, each is as it may be. -/
def Kept (n : Int) (l : List api_Edit) : Prop := l.length ≤ 200 ∧ (∀ e ∈ l, oneV n e = 0) ∧ l.Pairwise (fun a b => uponB a b = false)
theorem Kept.nil (n : Int) : Kept n [] := ⟨by simp, by simp, List.Pairwise.nil⟩
theorem Kept.perm {n : Int} {a b : List api_Edit} (h : Kept n a) (p : b.Perm a) : Kept n b := by
  refine ⟨by rw [p.length_eq]; exact h.1, fun e he => h.2.1 e (p.mem_iff.1 he), ?_⟩
  exact (p.pairwise_iff (fun {x y} q => by rw [uponB_comm]; exact q)).2 h.2.2
theorem freeB_iff {n : Int} {out : List api_Edit} {e : api_Edit} : freeB n out e = true ↔ oneV n e = 0 ∧ ∀ x ∈ out, uponB e x = false := by
  unfold freeB
  rw [Bool.and_eq_true, decide_eq_true_eq, Bool.not_eq_true']
  constructor
  · rintro ⟨h1, h2⟩
    refine ⟨h1, fun x hx => ?_⟩
    cases hu : uponB e x with
    | false => rfl
    | true => rw [List.any_eq_true.2 ⟨x, hx, hu⟩] at h2; cases h2
  · rintro ⟨h1, h2⟩
    refine ⟨h1, ?_⟩
    cases ha : out.any (uponB e) with
    | false => rfl
    | true => obtain ⟨x, hx, hu⟩ := List.any_eq_true.1 ha; rw [h2 x hx] at hu; cases hu
theorem Kept.snoc {n : Int} {out : List api_Edit} {e : api_Edit} (h : Kept n out) (hl : out.length < 200) (hf : freeB n out e = true) : Kept n (out ++ [e]) := by
  obtain ⟨h1, h2⟩ := freeB_iff.1 hf
  refine ⟨by simp; omega, fun x hx => ?_, List.pairwise_append.2 ⟨h.2.2, List.pairwise_singleton _ _, fun a ha b hb => ?_⟩⟩
  · rcases List.mem_append.1 hx with hx | hx
    · exact h.2.1 x hx
    · simp at hx; subst hx; exact h1
  · simp at hb; subst hb
    rw [uponB_comm]; exact h2 a ha
theorem edL_kept {n : Int} : ∀ (s out : List api_Edit), Kept n out → Kept n (edL n out s) := by
  intro s
  induction s with
  | nil => intro out h; exact h
  | cons e s ih =>
    intro out h
    simp only [edL]
    apply ih
    split
    · exact h
    · split
      · rename_i h1 h2
        exact h.snoc (by have := h.1; omega) h2
      · exact h
theorem kept_eq {n : Int} {x y : api_Edit} {l : List api_Edit} (h : Kept n l) (hx : x ∈ l) (hy : y ∈ l) (h1 : kle x y) (h2 : kle y x) : x = y := by
  obtain ⟨i, hi⟩ := List.getElem?_of_mem hx
  obtain ⟨j, hj⟩ := List.getElem?_of_mem hy
  have hu : uponB x y = true := by unfold uponB kle at *; rw [decide_eq_true_eq]; omega
  obtain ⟨i1, i2⟩ := List.getElem?_eq_some_iff.1 hi
  obtain ⟨j1, j2⟩ := List.getElem?_eq_some_iff.1 hj
  have hp := List.pairwise_iff_getElem.1 h.2.2
  rcases Nat.lt_trichotomy i j with q | q | q
  · have := hp i j i1 j1 q
    rw [i2, j2, hu] at this; cases this
  · subst q; rw [i2] at j2; exact j2
  · have := hp j i j1 i1 q
    rw [i2, j2, uponB_comm, hu] at this; cases this
/-- In order, there is but one. -/
theorem srt_uniq {n : Int} {a b : List api_Edit} (h : Kept n a) (ha : Srt a) (hb : Srt b) (p : a.Perm b) : a = b :=
  List.Perm.eq_of_pairwise (le := kle) (fun x y hx hy h1 h2 => kept_eq h hx (p.mem_iff.2 hy) h1 h2) ha hb p
theorem exists_sorted (l : List api_Edit) (hl : l.length ≤ 1000) : ∃ r, Srt r ∧ r.Perm l := by
  obtain ⟨r, _, h1, h2⟩ := sort_eq 3000 l hl (by decide)
  exact ⟨r, h1, h2⟩
theorem clone_eq (F : Nat) (l : List api_Edit) (hl : l.length ≤ 1000) : slices_Clone_api_Edit F l = some l := by
  unfold slices_Clone_api_Edit
  rw [if_pos (by simp; omega)]; simp
/-- What is chosen. -/
theorem choose_eq (F : Nat) (n : Int) (l : List api_Edit) (hl : l.length ≤ 1000) (hF : 2000 < F) : ∃ r, edit_Choose F n l = some r ∧ Srt r ∧ r.Perm (edL n [] l) ∧ Kept n r := by
  unfold edit_Choose
  have := choose_l0 F n hF l [] [] F (by omega) (by simp; omega) (by simp) (by simp)
  simp only [List.nil_append, List.length_nil] at this
  rw [show ((0 : Nat) : Int) = 0 from rfl] at this
  rw [this]
  simp only [Option.bind_some]
  have hk := edL_kept (n := n) l [] (Kept.nil n)
  obtain ⟨r, h1, h2, h3⟩ := sort_eq F (edL n [] l) (by have := hk.1; omega) hF
  rw [h1]
  simp only [Option.bind_some]
  rw [clone_eq F r (by rw [h3.length_eq]; have := hk.1; omega)]
  exact ⟨r, rfl, h2, h3, hk.perm h3⟩
/-! ### The document's own -/
instance (a b : api_Edit) : Decidable (klt a b) := by unfold klt; infer_instance
def pre (e : api_Edit) : List api_Edit → Nat
  | [] => 0
  | y :: s => if klt y e then pre e s + 1 else 0
theorem pre_le (e : api_Edit) : ∀ (l : List api_Edit), pre e l ≤ l.length := by
  intro l
  induction l with
  | nil => exact Nat.le_refl _
  | cons y s ih => simp only [pre]; split <;> simp <;> omega
def insK (e : api_Edit) (out : List api_Edit) : List api_Edit := out.take (pre e out) ++ e :: out.drop (pre e out)
theorem insK_perm (e : api_Edit) (out : List api_Edit) : (insK e out).Perm (out ++ [e]) := by
  unfold insK
  have := List.perm_middle (a := e) (l₁ := out.take (pre e out)) (l₂ := out.drop (pre e out))
  rw [List.take_append_drop] at this
  exact this.trans (List.perm_append_singleton e out).symm
theorem insK_srt (e : api_Edit) : ∀ (out : List api_Edit), Srt out → Srt (insK e out) := by
  intro out
  induction out with
  | nil => intro _; exact List.pairwise_singleton _ _
  | cons y s ih =>
    intro h
    obtain ⟨h1, h2⟩ := List.pairwise_cons.1 h
    unfold insK
    simp only [pre]
    by_cases hy : klt y e
    · rw [if_pos hy]
      simp only [List.take_succ_cons, List.drop_succ_cons, List.cons_append]
      refine List.pairwise_cons.2 ⟨fun z hz => ?_, ih h2⟩
      have : z ∈ insK e s := hz
      rcases List.mem_append.1 ((insK_perm e s).mem_iff.1 this) with q | q
      · exact h1 z q
      · simp at q; subst q; exact klt_kle hy
    · rw [if_neg hy]
      simp only [List.take_zero, List.drop_zero, List.nil_append]
      have he : kle e y := kle_iff.2 hy
      exact List.pairwise_cons.2 ⟨fun z hz => by
        rcases List.mem_cons.1 hz with rfl | hz
        · exact he
        · exact kle_trans he (h1 z hz), h⟩
def refL (n : Int) : List api_Edit → List api_Edit → List api_Edit
  | out, [] => out
  | out, e :: s => if out.length < 200 then refL n (if freeB n out e = true then insK e out else out) s else out
theorem any_perm {a b : List api_Edit} (p : a.Perm b) (f : api_Edit → Bool) : a.any f = b.any f := p.any_eq
theorem refL_edL (n : Int) : ∀ (s out out' : List api_Edit), Srt out → out.Perm out' → out.length ≤ 200 → Srt (refL n out s) ∧ (refL n out s).Perm (edL n out' s) := by
  intro s
  induction s with
  | nil => intro out out' h1 h2 h3; exact ⟨h1, h2⟩
  | cons e s ih =>
    intro out out' h1 h2 h3
    simp only [refL, edL]
    have hl := h2.length_eq
    by_cases h4 : out.length < 200
    · rw [if_pos h4, if_neg (show ¬ out'.length = 200 by omega)]
      have hf : freeB n out e = freeB n out' e := by unfold freeB; rw [any_perm h2]
      rw [hf]
      by_cases h5 : freeB n out' e = true
      · rw [if_pos h5, if_pos h5]
        refine ih _ _ (insK_srt e out h1) ((insK_perm e out).trans (h2.append_right [e])) ?_
        rw [(insK_perm e out).length_eq]; simp; omega
      · rw [if_neg h5, if_neg h5]
        exact ih _ _ h1 h2 h3
    · rw [if_neg h4, if_pos (by omega)]
      refine ⟨h1, ?_⟩
      have : ∀ (s : List api_Edit), edL n out' s = out' := by
        intro s
        induction s with
        | nil => rfl
        | cons x s ih2 => simp only [edL]; rw [if_pos (by omega)]; exact ih2
      rw [this]; exact h2
theorem rch_l1 (F : Nat) (n : Int) (l out : List api_Edit) (e : api_Edit) (i : Nat) (hi : l[i]? = some e) (hil : i < l.length) : ∀ (s p : List api_Edit) (m : Nat) (f : Bool), out = p ++ s → s.length < m → out.length ≤ 1000 →
    correctorref4_Choose_l1 F n l m out (i : Int) f (p.length : Int) = some (out, (i : Int), f && !(s.any (uponB e))) := by
  intro s
  induction s with
  | nil =>
    intro p m f h1 h2 h3
    obtain ⟨m, rfl⟩ : ∃ k, m = k + 1 := ⟨m - 1, by omega⟩
    subst h1
    rw [correctorref4_Choose_l1, if_neg (by simp)]
    simp
  | cons x s ih =>
    intro p m f h1 h2 h3
    obtain ⟨m, rfl⟩ : ∃ k, m = k + 1 := ⟨m - 1, by simp at h2; omega⟩
    subst h1
    simp only [List.length_cons, List.length_append] at h2 h3
    have hi2 : (0 : Int) ≤ (i : Int) ∧ (i : Int) < (l.length : Int) := by omega
    rw [correctorref4_Choose_l1, if_pos (mid_lt p s x).2]
    have key : ((if f = true then
          if 0 ≤ (i : Int) ∧ (i : Int) < (l.length : Int) then
            (l[(i : Int).toNat]?).bind fun x13196 =>
            if 0 ≤ (p.length : Int) ∧ (p.length : Int) < ((p ++ x :: s).length : Int) then
              ((p ++ x :: s)[(p.length : Int).toNat]?).bind fun x13203 =>
              (correctorref4_upon F x13196 x13203).bind fun r13212 =>
              if r13212 = true then
                some (p ++ x :: s, false)
              else
                some (p ++ x :: s, true)
            else none
          else none
        else
          some (p ++ x :: s, false)) : Option ((List api_Edit) × Bool)) = some (p ++ x :: s, f && !(uponB e x)) := by
      cases f with
      | false => rfl
      | true =>
        rw [if_pos rfl, if_pos hi2, get_nat, hi]
        simp only [Option.bind_some]
        rw [if_pos (mid_lt p s x), get_mid]
        simp only [Option.bind_some, rupon_eq]
        cases uponB e x <;> rfl
    rw [key]
    simp only [Option.bind_some]
    rw [step_mid p x (by omega)]
    have := ih (p ++ [x]) m (f && !(uponB e x)) (by simp) (by omega) (by simp; omega)
    rw [this, List.any_cons]
    cases f <;> cases uponB e x <;> simp
theorem rch_l2 (F : Nat) (n : Int) (l out : List api_Edit) (e : api_Edit) (i : Nat) (hi : l[i]? = some e) (hil : i < l.length) : ∀ (s p : List api_Edit) (m : Nat), out = p ++ s → s.length < m → out.length ≤ 1000 →
    correctorref4_Choose_l2 F n l m out (i : Int) (p.length : Int) = some (out, (i : Int), ((p.length + pre e s : Nat) : Int)) := by
  intro s
  induction s with
  | nil =>
    intro p m h1 h2 h3
    obtain ⟨m, rfl⟩ : ∃ k, m = k + 1 := ⟨m - 1, by omega⟩
    subst h1
    rw [correctorref4_Choose_l2, if_neg (by simp)]
    simp [pre]
  | cons x s ih =>
    intro p m h1 h2 h3
    obtain ⟨m, rfl⟩ : ∃ k, m = k + 1 := ⟨m - 1, by simp at h2; omega⟩
    subst h1
    simp only [List.length_cons, List.length_append] at h2 h3
    have hi2 : (0 : Int) ≤ (i : Int) ∧ (i : Int) < (l.length : Int) := by omega
    rw [correctorref4_Choose_l2, if_pos (mid_lt p s x).2]
    have hi' : l[((i : Nat) : Int).toNat]? = some e := by rw [get_nat]; exact hi
    simp only [if_pos (mid_lt p s x), get_mid, if_pos hi2, hi', Option.bind_some, pre]
    have hgo := ih (p ++ [x]) m (by simp) (by omega) (by simp; omega)
    rw [← step_mid p x (by omega)] at hgo
    by_cases h4 : x.From < e.From
    · rw [if_pos h4, if_pos (.inl h4)]
      simp only [Option.bind_some]
      rw [hgo]; simp; omega
    · rw [if_neg h4]
      by_cases h5 : x.From = e.From
      · rw [if_pos h5]
        by_cases h6 : x.To < e.To
        · rw [if_pos h6, if_pos (.inr ⟨h5, h6⟩)]
          simp only [Option.bind_some]
          rw [hgo]; simp; omega
        · rw [if_neg h6, if_neg (by unfold klt; omega)]
          simp
      · rw [if_neg h5, if_neg (by unfold klt; omega)]
        simp
theorem rch_l0 (F : Nat) (n : Int) (hF : 2000 < F) : ∀ (s p out : List api_Edit) (m : Nat), s.length < m → (p ++ s).length ≤ 1000 → out.length ≤ 200 → correctorref4_Choose_l0 F n (p ++ s) m out (p.length : Int) = some (refL n out s) := by
  intro s
  induction s with
  | nil =>
    intro p out m h1 h2 h3
    obtain ⟨m, rfl⟩ : ∃ k, m = k + 1 := ⟨m - 1, by omega⟩
    rw [correctorref4_Choose_l0, if_neg (by simp)]
    rfl
  | cons e s ih =>
    intro p out m h1 h2 h3
    obtain ⟨m, rfl⟩ : ∃ k, m = k + 1 := ⟨m - 1, by simp at h1; omega⟩
    simp only [List.length_cons, List.length_append] at h1 h2
    have hstep : ∀ o : List api_Edit, o.length ≤ 200 → correctorref4_Choose_l0 F n (p ++ e :: s) m o ((p ++ [e]).length : Int) = some (refL n o s) := fun o ho => by
      have := ih (p ++ [e]) o m (by omega) (by simp; omega) ho
      rw [app_mid] at this; exact this
    have hi : (p ++ e :: s)[p.length]? = some e := by simp
    rw [correctorref4_Choose_l0, if_pos (mid_lt p s e).2]
    simp only [refL]
    by_cases h5 : out.length < 200
    · rw [if_pos (by omega), if_pos h5]
      simp only [if_pos (mid_lt p s e), get_mid, Option.bind_some, rone_eq]
      have key : ((if oneV n e = 0 then some (out, true) else some (out, false)) : Option ((List api_Edit) × Bool)) = some (out, decide (oneV n e = 0)) := by
        by_cases h : oneV n e = 0
        · rw [if_pos h, decide_eq_true h]
        · rw [if_neg h, decide_eq_false h]
      rw [key]
      simp only [Option.bind_some]
      have r1 := rch_l1 F n (p ++ e :: s) out e p.length hi (by simp) out [] F (decide (oneV n e = 0)) rfl (by omega) (by omega)
      rw [show (([] : List api_Edit).length : Int) = 0 from rfl] at r1
      rw [r1]
      simp only [Option.bind_some]
      rw [show (decide (oneV n e = 0) && !(out.any (uponB e))) = freeB n out e from rfl]
      by_cases h6 : freeB n out e = true
      · rw [if_pos h6, if_pos h6]
        have r2 := rch_l2 F n (p ++ e :: s) out e p.length hi (by simp) out [] F rfl (by omega) (by omega)
        rw [show (([] : List api_Edit).length : Int) = 0 from rfl, List.length_nil, Nat.zero_add] at r2
        rw [r2]
        simp only [Option.bind_some]
        have hpl := pre_le e out
        have e1 : (out.take ((pre e out : Nat) : Int).toNat).drop (0 : Int).toNat = out.take (pre e out) := by simp
        have e2 : (out.take (out.length : Int).toNat).drop ((pre e out : Nat) : Int).toNat = out.drop (pre e out) := by simp
        rw [e1, e2, if_pos ⟨Int.le_refl _, by omega, by omega⟩, if_pos (by simp; omega), get_mid]
        simp only [Option.bind_some]
        rw [if_pos (mid_lt p s e), if_pos (by simp; omega), if_pos ⟨by omega, by omega, Int.le_refl _⟩, if_pos (by simp; omega), step_mid p e (by omega)]
        have e3 : ([] ++ out.take (pre e out)) ++ [e] ++ out.drop (pre e out) = insK e out := by unfold insK; simp
        rw [e3]
        exact hstep _ (by rw [(insK_perm e out).length_eq]; simp; omega)
      · rw [if_neg h6, if_neg h6, step_mid p e (by omega)]
        exact hstep out h3
    · rw [if_neg (by omega), if_neg h5]
theorem rchoose_eq (F : Nat) (n : Int) (l : List api_Edit) (hl : l.length ≤ 1000) (hF : 2000 < F) : correctorref4_Choose F n l = some (refL n [] l) ∧ Srt (refL n [] l) ∧ (refL n [] l).Perm (edL n [] l) ∧ Kept n (refL n [] l) := by
  obtain ⟨h1, h2⟩ := refL_edL n l [] [] List.Pairwise.nil (List.Perm.refl _) (by simp)
  refine ⟨?_, h1, h2, (edL_kept l [] (Kept.nil n)).perm h2⟩
  unfold correctorref4_Choose
  have := rch_l0 F n hF l [] [] F (by omega) (by simp; omega) (by simp)
  simp only [List.nil_append, List.length_nil] at this
  rw [show ((0 : Nat) : Int) = 0 from rfl] at this
  rw [this]; rfl
/-- The program chooses what the document does. -/
theorem choose_ref (F : Nat) (n : Int) (l : List api_Edit) (hl : l.length ≤ 1000) (hF : 2000 < F) : edit_Choose F n l = some (refL n [] l) := by
  obtain ⟨r, h1, h2, h3, h4⟩ := choose_eq F n l hl hF
  obtain ⟨g1, g2, g3, g4⟩ := rchoose_eq F n l hl hF
  rw [h1, srt_uniq h4 h2 g2 (h3.trans g3.symm)]
/-- What is kept, in order, may be done. -/
theorem kept_fine {n : Int} : ∀ (l : List api_Edit) (t : Int), Srt l → (∀ e ∈ l, oneV n e = 0) → l.Pairwise (fun a b => uponB a b = false) → (∀ e ∈ l, t ≤ e.From) → Fine n t l := by
  intro l
  induction l with
  | nil => intro t _ _ _ _; trivial
  | cons e s ih =>
    intro t h1 h2 h3 h4
    obtain ⟨a1, a2, a3, a4⟩ := oneV_zero.1 (h2 e List.mem_cons_self)
    obtain ⟨b1, b2⟩ := List.pairwise_cons.1 h1
    obtain ⟨c1, c2⟩ := List.pairwise_cons.1 h3
    refine ⟨h4 e List.mem_cons_self, a2, a3, a4, ih e.To b2 (fun x hx => h2 x (List.mem_cons_of_mem _ hx)) c2 fun x hx => ?_⟩
    obtain ⟨d1, d2, d3, d4⟩ := oneV_zero.1 (h2 x (List.mem_cons_of_mem _ hx))
    have k1 := b1 x hx
    have k2 := c1 x hx
    unfold uponB at k2
    rw [decide_eq_false_iff_not] at k2
    unfold kle at k1
    omega
theorem kept_check {n : Int} {l : List api_Edit} (h : Kept n l) (hs : Srt l) : checkV n l = 0 := by
  refine checkV_fine.2 ⟨h.1, kept_fine l 0 hs h.2.1 h.2.2 fun e he => ?_⟩
  obtain ⟨a1, _⟩ := oneV_zero.1 (h.2.1 e he)
  exact a1
theorem edL_self {n : Int} : ∀ (s out : List api_Edit), Kept n (out ++ s) → edL n out s = out ++ s := by
  intro s
  induction s with
  | nil => intro out _; simp [edL]
  | cons e s ih =>
    intro out h
    simp only [edL]
    have hl := h.1
    simp only [List.length_append, List.length_cons] at hl
    have hf : freeB n out e = true := freeB_iff.2 ⟨h.2.1 e (by simp), fun x hx => by
      rw [uponB_comm]
      exact (List.pairwise_append.1 h.2.2).2.2 x hx e (by simp)⟩
    rw [if_neg (by omega), if_pos hf, ih (out ++ [e]) (by rw [app_mid]; exact h), app_mid]
theorem choose_self (F : Nat) (n : Int) (l : List api_Edit) (h : Kept n l) (hs : Srt l) (hF : 2000 < F) : edit_Choose F n l = some l := by
  obtain ⟨r, h1, h2, h3, h4⟩ := choose_eq F n l (by have := h.1; omega) hF
  rw [edL_self l [] (by simpa using h), List.nil_append] at h3
  rw [h1, srt_uniq h4 h2 hs h3]
end Go.Proofs.Ytdajldmgdpggkaa.M
