/- Edit, plainly: the example; where places go. -/
import Derived.Test.YtdajldmgdpggkaaP4C
namespace Go.Proofs.Ytdajldmgdpggkaa.M
open Go Am Sy
set_option linter.unusedVariables false
set_option linter.unusedSimpArgs false

theorem known_eq (F : Nat) (hF : 2000 < F) : correctorlaw4_known F = some true := by
  unfold correctorlaw4_known
  have h : refL 5 [] [(⟨2, 2, (⟨[97]⟩ : Str)⟩ : api_Edit), (⟨2, 2, (⟨[98]⟩ : Str)⟩ : api_Edit)] = [(⟨2, 2, (⟨[97]⟩ : Str)⟩ : api_Edit)] := by decide
  rw [choose_ref F 5 _ (by simp) hF, h]
  rfl
theorem same_l0 (F : Nat) (l : List api_Edit) (hl : l.length ≤ 100000) : ∀ (s p : List api_Edit) (m : Nat), l = p ++ s → s.length < m → correctorlaw4_same_l0 F l l m (p.length : Int) = some (.inl ()) := by
  intro s
  induction s with
  | nil =>
    intro p m h1 h2
    obtain ⟨m, rfl⟩ : ∃ k, m = k + 1 := ⟨m - 1, by omega⟩
    subst h1
    rw [correctorlaw4_same_l0, if_neg (by simp)]
  | cons x s ih =>
    intro p m h1 h2
    obtain ⟨m, rfl⟩ : ∃ k, m = k + 1 := ⟨m - 1, by simp at h2; omega⟩
    subst h1
    simp only [List.length_cons, List.length_append] at h2 hl
    rw [correctorlaw4_same_l0, if_pos (mid_lt p s x).2]
    simp only [if_pos (mid_lt p s x), get_mid, Option.bind_some, if_true]
    rw [step_mid p x (by omega)]
    exact ih (p ++ [x]) m (by simp) (by omega)
theorem same_eq (F : Nat) (l : List api_Edit) (hl : l.length ≤ 1000) (hF : 2000 < F) : correctorlaw4_same F l l = some true := by
  unfold correctorlaw4_same
  rw [if_pos rfl]
  have := same_l0 F l (by omega) l [] F rfl (by omega)
  simp only [List.length_nil] at this
  rw [show ((0 : Nat) : Int) = 0 from rfl] at this
  rw [this]; rfl
theorem fine_tame {n : Int} (hn : n ≤ 1000000) : ∀ (s : List api_Edit) (t : Int), 0 ≤ t → Fine n t s → Tame s := by
  intro s
  induction s with
  | nil => intro t _ _ e he; cases he
  | cons x s ih =>
    intro t h0 ⟨a1, a2, a3, a4, a5⟩ e he
    rcases List.mem_cons.1 he with rfl | he
    · exact ⟨by omega, by omega, by omega, by omega, by omega⟩
    · exact ih x.To (by omega) a5 e he
/-- Edits of a good text: what they are. -/
theorem good_ref (F : Nat) (n : Int) (l : List api_Edit) (hn : 0 ≤ n) (hn2 : n ≤ 1000) (hl : l.length ≤ 210) (hF : 2000 < F) :
    ∃ es, correctorlaw4_Good F n l = some (goodL n l) ∧ correctorref4_Choose F n (goodL n l) = some es ∧ es.length ≤ 30 ∧ Fine n 0 es ∧ (∀ e ∈ es, e.Put.b.length ≤ 20) ∧ checkV n es = 0 := by
  obtain ⟨h1, h2, h3, h4⟩ := rchoose_eq F n (goodL n l) (by have := goodL_len n l; omega) hF
  have hc := kept_check h4 h2
  have hsub : ∀ e ∈ refL n [] (goodL n l), e ∈ goodL n l := by
    intro e he
    have he := h3.mem_iff.1 he
    have : ∀ (s out : List api_Edit), e ∈ edL n out s → e ∈ out ∨ e ∈ s := by
      intro s
      induction s with
      | nil => intro out h; exact .inl h
      | cons x s ih =>
        intro out h
        simp only [edL] at h
        rcases ih _ h with q | q
        · split at q
          · exact .inl q
          · split at q
            · rcases List.mem_append.1 q with q | q
              · exact .inl q
              · simp at q; subst q; exact .inr List.mem_cons_self
            · exact .inl q
        · exact .inr (List.mem_cons_of_mem _ q)
    rcases this _ _ he with q | q
    · cases q
    · exact q
  have hlen : (refL n [] (goodL n l)).length ≤ 30 := by
    rw [h3.length_eq]
    have : ∀ (s out : List api_Edit), (edL n out s).length ≤ out.length + s.length := by
      intro s
      induction s with
      | nil => intro out; simp [edL]
      | cons x s ih =>
        intro out
        simp only [edL, List.length_cons]
        refine Nat.le_trans (ih _) ?_
        split
        · omega
        · split
          · simp; omega
          · omega
    have h5 := this (goodL n l) []
    have := goodL_len n l
    simp at h5; omega
  exact ⟨_, good_eq F n l hn (by omega) hl (by omega), h1, hlen, (checkV_fine.1 hc).2, fun e he => (goodL_ok hn l e (hsub e he)).2.2.2, hc⟩
theorem outL_len20 {b : List UInt8} : ∀ (s : List api_Edit) (t : Int), 0 ≤ t → Fine b.length t s → (∀ e ∈ s, e.Put.b.length ≤ 20) → ((outL b t s ++ b.drop (lastTo t s).toNat).length : Int) ≤ (b.length : Int) - t + s.length * 20 ∨ (b.length : Int) < t := by
  intro s
  induction s with
  | nil =>
    intro t h0 _ _
    simp only [outL, lastTo, List.nil_append, List.length_drop, List.length_nil]
    omega
  | cons e s ih =>
    intro t h0 ⟨a1, a2, a3, a4, a5⟩ h
    have h1 := h e List.mem_cons_self
    have := ih e.To (by omega) a5 (fun x hx => h x (List.mem_cons_of_mem _ hx))
    simp only [outL, lastTo, List.length_append, List.length_cons, List.length_drop, List.length_take] at this ⊢
    omega
theorem done_small {b : List UInt8} {es : List api_Edit} (hb : b.length ≤ 100) (hl : es.length ≤ 30) (hf : Fine b.length 0 es) (hp : ∀ e ∈ es, e.Put.b.length ≤ 20) : (doneL b es).length ≤ 700 := by
  have := outL_len20 es 0 (Int.le_refl _) hf hp
  unfold doneL
  omega
theorem apply_done (F : Nat) (b : List UInt8) (es : List api_Edit) (hb : b.length ≤ 100) (hl : es.length ≤ 30) (hf : Fine b.length 0 es) (hp : ∀ e ∈ es, e.Put.b.length ≤ 20) (hF : 2000 < F) : edit_Apply F b es = some (doneL b es, 0) := by
  rw [apply_eq F b es (by omega) (by omega)]
  unfold applyV
  have := done_small hb hl hf hp
  rw [if_pos (checkV_fine.2 ⟨by omega, hf⟩), if_neg (by omega)]
/-! ### Places -/
theorem mapV_stay {n : Int} (a : Int) : ∀ (s : List api_Edit) (t by_ : Int), a < t → Fine n t s → mapV a by_ s = a + by_ := by
  intro s
  induction s with
  | nil => intro t by_ _ _; rfl
  | cons e s ih =>
    intro t by_ h ⟨a1, a2, a3, a4, a5⟩
    simp only [mapV]
    rw [if_neg (by omega), if_neg (by omega)]
    exact ih e.To by_ (by omega) a5
def restL (b : List UInt8) (t : Int) (s : List api_Edit) : List UInt8 := outL b t s ++ b.drop (lastTo t s).toNat
theorem restL_cons (b : List UInt8) (t : Int) (e : api_Edit) (s : List api_Edit) : restL b t (e :: s) = (b.take e.From.toNat).drop t.toNat ++ (e.Put.b ++ restL b e.To s) := by simp [restL, outL, lastTo]
/-- A place goes into what is put together; a byte that no edit touches goes with it. -/
theorem mapV_in {b : List UInt8} (a : Int) : ∀ (s : List api_Edit) (t by_ : Int), 0 ≤ t → t ≤ a → a ≤ b.length → Fine b.length t s →
    ∃ r : Nat, mapV a by_ s = t + by_ + r ∧ r ≤ (restL b t s).length ∧ ((∀ e ∈ s, ¬ (e.From ≤ a ∧ a < e.To)) → a < b.length → (restL b t s)[r]? = b[a.toNat]?) := by
  intro s
  induction s with
  | nil =>
    intro t by_ h0 h1 h2 _
    refine ⟨(a - t).toNat, ?_, ?_, fun _ h3 => ?_⟩
    · simp only [mapV]; omega
    · simp only [restL, outL, lastTo, List.nil_append, List.length_drop]; omega
    · simp only [restL, outL, lastTo, List.nil_append, List.getElem?_drop]
      congr 1; omega
  | cons e s ih =>
    intro t by_ h0 h1 h2 ⟨a1, a2, a3, a4, a5⟩
    have hpl : ((b.take e.From.toNat).drop t.toNat).length = (e.From - t).toNat := by simp; omega
    simp only [mapV]
    by_cases h3 : e.To ≤ a
    · rw [if_pos h3]
      obtain ⟨r, q1, q2, q3⟩ := ih e.To (by_ + (e.Put.b.length - (e.To - e.From))) (by omega) h3 h2 a5
      refine ⟨(e.From - t).toNat + (e.Put.b.length + r), by rw [q1]; omega, ?_, fun h4 h5 => ?_⟩
      · rw [restL_cons, List.length_append, List.length_append, hpl]; omega
      · rw [restL_cons, List.getElem?_append_right (by omega), hpl, Nat.add_sub_cancel_left, List.getElem?_append_right (by omega), Nat.add_sub_cancel_left]
        exact q3 (fun x hx => h4 x (List.mem_cons_of_mem _ hx)) h5
    · rw [if_neg h3]
      by_cases h4 : e.From < a
      · rw [if_pos h4]
        refine ⟨(e.From - t).toNat + e.Put.b.length, by omega, ?_, fun h5 => absurd ⟨by omega, by omega⟩ (h5 e List.mem_cons_self)⟩
        rw [restL_cons, List.length_append, List.length_append, hpl]; omega
      · rw [if_neg h4, mapV_stay a s e.To by_ (by omega) a5]
        refine ⟨(a - t).toNat, by omega, ?_, fun h5 h6 => ?_⟩
        · rw [restL_cons, List.length_append, hpl]; omega
        · have h7 : a < e.From := by
            have := h5 e List.mem_cons_self
            omega
          rw [restL_cons, List.getElem?_append_left (by omega), List.getElem?_drop, List.getElem?_take_of_lt (by omega)]
          congr 1; omega
theorem mapV_ge {b : List UInt8} (a : Int) (s : List api_Edit) (t by_ : Int) (h0 : 0 ≤ t) (h1 : t ≤ a) (h2 : a ≤ b.length) (hf : Fine b.length t s) : t + by_ ≤ mapV a by_ s := by
  obtain ⟨r, q1, _⟩ := mapV_in (b := b) a s t by_ h0 h1 h2 hf
  omega
theorem mapV_mono {b : List UInt8} (a : Int) (ha : a + 1 ≤ b.length) : ∀ (s : List api_Edit) (t by_ : Int), 0 ≤ t → t ≤ a → Fine b.length t s → mapV a by_ s ≤ mapV (a + 1) by_ s := by
  intro s
  induction s with
  | nil => intro t by_ _ _ _; simp only [mapV]; omega
  | cons e s ih =>
    intro t by_ h0 h1 ⟨a1, a2, a3, a4, a5⟩
    simp only [mapV]
    by_cases h3 : e.To ≤ a
    · rw [if_pos h3, if_pos (by omega)]
      exact ih e.To _ (by omega) h3 a5
    · rw [if_neg h3]
      by_cases h4 : e.From < a
      · rw [if_pos h4]
        by_cases h5 : e.To ≤ a + 1
        · rw [if_pos h5]
          have := mapV_ge (b := b) (a + 1) s e.To (by_ + (e.Put.b.length - (e.To - e.From))) (by omega) h5 ha a5
          omega
        · rw [if_neg h5, if_pos (by omega)]; omega
      · rw [if_neg h4, mapV_stay a s e.To by_ (by omega) a5]
        by_cases h5 : e.To ≤ a + 1
        · rw [if_pos h5]
          have := mapV_ge (b := b) (a + 1) s e.To (by_ + (e.Put.b.length - (e.To - e.From))) (by omega) h5 ha a5
          omega
        · rw [if_neg h5]
          by_cases h6 : e.From < a + 1
          · rw [if_pos h6]; omega
          · rw [if_neg h6, mapV_stay (a + 1) s e.To by_ (by omega) a5]; omega
theorem mapV_end {b : List UInt8} (a : Int) (ha : b.length ≤ a) : ∀ (s : List api_Edit) (t by_ : Int), 0 ≤ t → t ≤ b.length → Fine b.length t s → mapV a by_ s = a - b.length + t + by_ + (restL b t s).length := by
  intro s
  induction s with
  | nil =>
    intro t by_ h0 h1 _
    simp only [mapV, restL, outL, lastTo, List.nil_append, List.length_drop]; omega
  | cons e s ih =>
    intro t by_ h0 h1 ⟨a1, a2, a3, a4, a5⟩
    have hpl : ((b.take e.From.toNat).drop t.toNat).length = (e.From - t).toNat := by simp; omega
    simp only [mapV]
    rw [if_pos (by omega), ih e.To _ (by omega) a3 a5, restL_cons, List.length_append, List.length_append, hpl]
    omega
end Go.Proofs.Ytdajldmgdpggkaa.M
