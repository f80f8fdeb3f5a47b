/- Rows, plainly: what the scanner's tokens grant; the texts of the laws. -/
import Derived.Test.YtcnbcimnfeekjaaP9Q
namespace Go.Proofs.Ytcnbcimnfeekjaa.M
open Go Am Sy
set_option linter.unusedVariables false
set_option linter.unusedSimpArgs false
set_option maxRecDepth 100000
theorem Tk.froms {n : Int} {l : List api_Token} {a : Int} (h : Tk n l a) : (∀ t ∈ l, 0 ≤ t.From ∧ t.From < a) ∧ l.Pairwise (fun a b => a.From < b.From) ∧ 0 ≤ a := by
  induction h with
  | nil => simp
  | @snoc l at' k to h1 h2 h3 h4 h5 ih =>
    obtain ⟨i1, i2, i3⟩ := ih
    refine ⟨?_, ?_, by omega⟩
    · intro t ht
      rcases List.mem_append.1 ht with ht | ht
      · have := i1 t ht; omega
      · simp at ht; subst ht; dsimp only; omega
    · rw [List.pairwise_append]
      refine ⟨i2, by simp, ?_⟩
      intro x hx y hy
      simp at hy; subst hy
      exact (i1 x hx).2
theorem snoc_cases {α : Type} {l : List α} {x : α} {p : List α} {t : α} {s : List α} (h : l ++ [x] = p ++ t :: s) : (s = [] ∧ p = l ∧ t = x) ∨ ∃ s', s = s' ++ [x] ∧ l = p ++ t :: s' := by
  rcases List.eq_nil_or_concat s with rfl | ⟨s', y, rfl⟩
  · have := List.append_inj' h (by simp)
    simp at this
    exact .inl ⟨rfl, this.1.symm, this.2.symm⟩
  · rw [show p ++ t :: List.concat s' y = (p ++ t :: s') ++ [y] by simp] at h
    have := List.append_inj' h (by simp)
    simp at this
    obtain ⟨h1, rfl⟩ := this
    exact .inr ⟨s', by simp, h1⟩
def Marks (l : List api_Token) : Prop := ∀ p t s, l = p ++ t :: s → t.Kind = 2 ∨ t.Kind = 20 ∨ t.Kind = 21 → Ends p
def Coms (l : List api_Token) : Prop := ∀ p t u s, l = p ++ t :: u :: s → t.Kind = 4 → u.Kind = 1
theorem Tk.marks {n : Int} {l : List api_Token} {a : Int} (h : Tk n l a) : Marks l := by
  induction h with
  | nil => intro p t s h; simp at h
  | @snoc l at' k to h1 h2 h3 h4 h5 ih =>
    intro p t s h hk
    rcases snoc_cases h with ⟨rfl, rfl, rfl⟩ | ⟨s', rfl, h'⟩
    · exact h4 hk
    · exact ih p t s' h' hk
theorem Tk.coms {n : Int} {l : List api_Token} {a : Int} (h : Tk n l a) : Coms l := by
  induction h with
  | nil => intro p t u s h; simp at h
  | @snoc l at' k to h1 h2 h3 h4 h5 ih =>
    intro p t u s h hk
    rcases snoc_cases h with ⟨q, _, _⟩ | ⟨s', q, h'⟩
    · cases q
    · cases s' with
      | nil =>
        simp at q
        obtain ⟨rfl, rfl⟩ := q
        exact h5 ⟨p, t, h', hk⟩
      | cons v s'' =>
        simp at q
        obtain ⟨rfl, rfl⟩ := q
        exact ih p t u s'' h' hk
/-- Only the last one may end a row. -/
def NE (c : List api_Token) : Prop := ∀ q t u s, c = q ++ t :: u :: s → endK t.Kind = false
theorem NE.of {c : List api_Token} (h : ∀ t ∈ c, endK t.Kind = false) : NE c := by
  rintro q t u s rfl; exact h t (by simp)
theorem NE.snoc {c : List api_Token} (h : ∀ t ∈ c, endK t.Kind = false) (x : api_Token) : NE (c ++ [x]) := by
  intro q t u s e
  rcases snoc_cases e with ⟨e1, _, _⟩ | ⟨s', e1, e2⟩
  · cases e1
  · exact h t (by rw [e2]; simp)
theorem mid_start {l p c s : List api_Token} (h : l = p ++ c ++ s) (hm : Marks l) (hne : NE c) {q : List api_Token} {t : api_Token} {q' : List api_Token} (hq : c = q ++ t :: q') (hk : t.Kind = 2 ∨ t.Kind = 20 ∨ t.Kind = 21) : q = [] := by
  have he := hm (p ++ q) t (q' ++ s) (by rw [h, hq]; simp) hk
  rcases List.eq_nil_or_concat q with rfl | ⟨q0, y, rfl⟩
  · rfl
  · have := hne q0 y t q' (by rw [hq]; simp)
    rcases he with he | ⟨p', z, he, hz⟩
    · simp at he
    · have : y = z := by
        have e : p ++ List.concat q0 y = (p ++ q0) ++ [y] := by simp
        rw [e] at he
        have := List.append_inj' he (by simp)
        simpa using this.2
      subst this
      have hz' : endK y.Kind = true := by unfold endK; rcases hz with hz | hz <;> simp [hz]
      simp_all
theorem kk_same {l p c s : List api_Token} (h : l = p ++ c ++ s) (hm : Marks l) (hne : NE c) (o : Int) : kP c o = kR c o := by
  unfold kP kR
  by_cases h19 : hk c = 19
  · simp [h19]
  rw [if_neg h19, if_neg h19]
  by_cases ho : 0 < o
  · rw [if_pos ho, if_pos ho]
    have key : (hk c = 20 ∨ hk c = 21) ↔ k0 c = 4 := by
      cases c with
      | nil => simp [hk, k0, fc]
      | cons t c' =>
        constructor
        · intro hh
          have hh' : t.Kind = 20 ∨ t.Kind = 21 := hh
          have : cnt t.Kind = true := by unfold cnt; rcases hh' with e | e <;> rw [e] <;> rfl
          have hf : fc (t :: c') = some t := by unfold fc; simp [this]
          unfold k0; rw [hf]
          dsimp only
          rw [if_pos hh']
        · intro hh
          unfold k0 at hh
          rcases hf : fc (t :: c') with _ | u
          · rw [hf] at hh; simp at hh
          · rw [hf] at hh
            dsimp only at hh
            have hu : u.Kind = 20 ∨ u.Kind = 21 := by
              by_cases e : u.Kind = 20 ∨ u.Kind = 21
              · exact e
              · rw [if_neg e] at hh; omega
            have hmem : u ∈ t :: c' := List.mem_of_find?_eq_some hf
            obtain ⟨q, q', e⟩ := List.append_of_mem hmem
            have := mid_start h hm hne e (by omega)
            subst this
            simp at e
            rw [← e.1] at hu
            exact hu
    by_cases hc : hk c = 20 ∨ hk c = 21
    · rw [if_pos hc, if_pos (key.1 hc)]
    · rw [if_neg hc, if_neg (fun e => hc (key.2 e))]
  · rw [if_neg ho, if_neg ho]
theorem go_same {l : List api_Token} (hm : Marks l) : ∀ (s p c : List api_Token) (f o n : Int), l = p ++ c ++ s → (∀ t ∈ c, endK t.Kind = false) → goR kP f c o n s = goR kR f c o n s := by
  intro s
  induction s with
  | nil => intro p c f o n h hc; rw [goR, goR, kk_same h hm (NE.of hc)]
  | cons t s ih =>
    intro p c f o n h hc
    have h' : l = p ++ (c ++ [t]) ++ s := by rw [h]; simp
    rw [goR, goR, kk_same h' hm (NE.snoc hc t)]
    by_cases hk : endK t.Kind = true
    · rw [if_pos hk, if_pos hk, ih (p ++ (c ++ [t])) [] _ _ _ (by rw [h']; simp) (by simp)]
    · rw [if_neg hk, if_neg hk]
      exact ih p (c ++ [t]) _ _ _ h' (by intro x hx; rcases List.mem_append.1 hx with hx | hx; exact hc x hx; simp at hx; subst hx; simpa using hk)
/-- Tokens as they are of a text of 400 bytes at most. -/
structure Toks (l : List api_Token) : Prop where
  small : Small l
  lt : l.Pairwise (fun a b => a.From < b.From)
  marks : Marks l
  coms : Coms l
  len : l.length ≤ 400
theorem Toks.sorted {l : List api_Token} (h : Toks l) : Sorted l := h.lt.imp (fun q => Int.le_of_lt q)
theorem toks_wp (B : List UInt8) (h : B.length ≤ 400) : Wp (correctorref6_Tokens 3000 B) Toks := by
  refine (tokens_wp 3000 B (by omega) (by omega)).mono ?_
  intro l hl
  have h1 := hl.froms
  have h2 := hl.bounds
  exact ⟨fun t ht => by have := h1.1 t ht; omega, h1.2.1, hl.marks, hl.coms, by omega⟩
theorem rows_ref {l : List api_Token} (h : Toks l) (b : List UInt8) : rows_Rows 3000 b l = some (goR kP 0 [] 0 0 l) ∧ correctorref9_Rows 3000 l = some (goR kP 0 [] 0 0 l) := by
  have hl := h.len
  refine ⟨rows_eq 3000 b l h.small (by omega) (by omega), ?_⟩
  rw [ref_eq 3000 l h.small h.sorted (by omega) (by omega), go_same h.marks l [] [] 0 0 0 rfl (by simp)]
theorem piece_wp (F : Nat) (a : Int) : Wp (correctorlaw6_Piece F a) (fun s => s.b.length ≤ 20) := by
  unfold correctorlaw6_Piece
  have hw : ∀ n : Int, 0 < n → n ≤ 1000 → correctorlaw6_within F a n = some (wi a n) := by
    intro n hn hm
    unfold correctorlaw6_within
    have h1 := Int.tmod_lt_of_pos a hn
    have h2 := Int.lt_tmod_of_pos a hn
    rw [if_pos (by omega)]
    by_cases h : a.tmod n < 0
    · rw [if_pos h]
      simp only [Option.bind_some]
      unfold wi
      rw [if_pos h, w64_eq (by omega) (by omega)]
    · rw [if_neg h]
      simp only [Option.bind_some]
      unfold wi
      rw [if_neg h]
  rw [hw _ (by decide) (by decide)]
  refine wpB (wpS ?_)
  refine wpI ?_ ?_ <;> intro h
  · refine wpB (wpG h ?_)
    intro x hx
    refine wpS ?_
    have hm := List.mem_of_getElem? hx
    revert x
    intro x _ hm
    have all : ∀ x ∈ ([(⟨[97]⟩ : Str), (⟨[98, 58, 32]⟩ : Str), (⟨[45, 32]⟩ : Str), (⟨[10]⟩ : Str), (⟨[10]⟩ : Str), (⟨[10, 32, 32]⟩ : Str), (⟨[10, 32, 32, 32, 32]⟩ : Str), (⟨[107, 101, 121, 58, 32]⟩ : Str), (⟨[91]⟩ : Str), (⟨[93]⟩ : Str), (⟨[123]⟩ : Str), (⟨[125]⟩ : Str), (⟨[44, 32]⟩ : Str), (⟨[58, 32]⟩ : Str), (⟨[39, 105, 116, 39, 39, 115, 39]⟩ : Str), (⟨[34, 120, 92, 110, 34]⟩ : Str), (⟨[35, 32, 110, 111, 116, 101, 10]⟩ : Str), (⟨[38, 110, 32]⟩ : Str), (⟨[42, 110]⟩ : Str), (⟨[33, 33, 105, 110, 116, 32]⟩ : Str), (⟨[124, 10]⟩ : Str), (⟨[62, 45, 10]⟩ : Str), (⟨[45, 45, 45]⟩ : Str), (⟨[46, 46, 46]⟩ : Str), (⟨[9]⟩ : Str), (⟨[13, 10]⟩ : Str), (⟨[32]⟩ : Str), (⟨[49]⟩ : Str), (⟨[126]⟩ : Str), (⟨[39, 111, 112, 101, 110]⟩ : Str), (⟨[34, 92, 113, 34]⟩ : Str), (⟨[45]⟩ : Str), (⟨[58]⟩ : Str), (⟨[116, 101, 120, 116, 32, 111, 102, 32, 119, 111, 114, 100, 115]⟩ : Str), (⟨[10, 45, 32]⟩ : Str), (⟨[10, 107, 58, 32]⟩ : Str), (⟨[32, 32]⟩ : Str), (⟨[35, 32, 111, 102, 102]⟩ : Str), (⟨[44]⟩ : Str), (⟨[124, 43]⟩ : Str), (⟨[10, 10]⟩ : Str)] : List Str), x.b.length ≤ 20 := by decide +kernel
    exact all x hm
  · exact absurd (wi_range a _ (by decide)) h
theorem text_l0 (F : Nat) (ns : List Int) (raw : List UInt8) : ∀ (m : Nat) (out : List UInt8) (i : Int), 0 ≤ i → i ≤ 60 → 60 - i < m → (out.length : Int) ≤ 60 * i →
    Wp (correctorlaw6_Text_l0 F ns raw m out i) (fun _ => True) := by
  intro m
  induction m with
  | zero => intro out i h1 h2 h3; omega
  | succ m ih =>
    intro out i h1 h2 h3 h4
    rw [correctorlaw6_Text_l0]
    refine wpI ?_ ?_ <;> intro hx
    · refine wpI ?_ ?_ <;> intro hy
      · refine wpB ?_
        have hi : 0 ≤ imin (raw.length : Int) 30 ∧ imin (raw.length : Int) 30 ≤ 30 ∧ imin (raw.length : Int) 30 ≤ raw.length := by unfold imin; split <;> omega
        generalize imin (raw.length : Int) 30 = k at hi
        have hl : ((raw.take k.toNat).drop (0 : Int).toNat).length = k.toNat := by simp; omega
        refine Wp.mono (P := fun z : List UInt8 => (z.length : Int) ≤ 60 * i + 30) ?_ ?_
        · refine wpI ?_ ?_ <;> intro hz
          · rw [if_pos ⟨by omega, by omega, by omega⟩, if_pos (by rw [hl]; omega)]
            refine wpS ?_
            rw [List.length_append, hl]; omega
          · exact wpS (by omega)
        · intro z hz
          rw [if_pos ⟨h1, hx⟩]
          refine wpB (wpG ⟨h1, hx⟩ ?_)
          intro x _
          refine wpB ((piece_wp F x).mono ?_)
          intro s hs
          rw [if_pos (by omega), w64_eq (by omega) (by omega)]
          exact ih _ _ (by omega) (by omega) (by omega) (by rw [List.length_append]; omega)
      · exact wpS trivial
    · exact wpS trivial
theorem text_wp (ns : List Int) (raw : List UInt8) : Wp (correctorlaw6_Text 3000 ns raw) (fun b => b.length ≤ 400) := by
  unfold correctorlaw6_Text
  refine wpB ((text_l0 3000 ns raw 3000 [] 0 (by omega) (by omega) (by omega) (by simp)).mono ?_)
  intro z _
  have hi : 0 ≤ imin (z.length : Int) 400 ∧ imin (z.length : Int) 400 ≤ 400 ∧ imin (z.length : Int) 400 ≤ z.length := by unfold imin; split <;> omega
  rw [if_pos ⟨by omega, by omega, by omega⟩]
  refine wpS ?_
  generalize imin (z.length : Int) 400 = k at hi
  simp; omega
end Go.Proofs.Ytcnbcimnfeekjaa.M
