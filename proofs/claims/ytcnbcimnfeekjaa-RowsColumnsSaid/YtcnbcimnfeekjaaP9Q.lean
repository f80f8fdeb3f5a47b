/- Rows, plainly: the document's rows; both are the same. -/
import Derived.Test.YtcnbcimnfeekjaaP9R
namespace Go.Proofs.Ytcnbcimnfeekjaa.M
open Go Am Sy
set_option linter.unusedVariables false
set_option linter.unusedSimpArgs false
set_option maxRecDepth 100000
/-- One row: its tokens, how many brackets are open behind it, and what comes next. -/
def span : List api_Token → Int → List api_Token → List api_Token × Int × List api_Token
  | c, n, [] => (c, n, [])
  | c, n, t :: s => if endK t.Kind = true then (c ++ [t], brk t.Kind n, s) else span (c ++ [t]) (brk t.Kind n) s
theorem go_span (K : List api_Token → Int → Int) : ∀ (s c : List api_Token) (f o n : Int), ¬(c = [] ∧ s = []) →
    goR K f c o n s = ⟨K (span c n s).1 o, f, f + (span c n s).1.length, colP (span c n s).1⟩ :: goR K (f + (span c n s).1.length) [] (span c n s).2.1 (span c n s).2.1 (span c n s).2.2 := by
  intro s
  induction s with
  | nil => intro c f o n h; rw [goR, if_neg (by simpa using h)]; rfl
  | cons t s ih =>
    intro c f o n h
    rw [goR, span]
    by_cases hk : endK t.Kind = true
    · rw [if_pos hk, if_pos hk]
    · rw [if_neg hk, if_neg hk]
      exact ih _ _ _ _ (by simp)
theorem span_app : ∀ (s c : List api_Token) (n : Int), c ++ s = (span c n s).1 ++ (span c n s).2.2 ∧ c.length ≤ (span c n s).1.length ∧ (s ≠ [] → c.length < (span c n s).1.length) ∧ (0 ≤ n ∧ n ≤ c.length → 0 ≤ (span c n s).2.1) := by
  intro s
  induction s with
  | nil => intro c n; simp [span]; omega
  | cons t s ih =>
    intro c n
    rw [span]
    by_cases hk : endK t.Kind = true
    · rw [if_pos hk]
      refine ⟨by simp, by simp, fun _ => by simp, fun h => (brk_range h).1⟩
    · rw [if_neg hk]
      obtain ⟨h1, h2, h3, h4⟩ := ih (c ++ [t]) (brk t.Kind n)
      refine ⟨by rw [← h1]; simp, by simp at h2; omega, fun _ => by simp at h2; omega, fun h => h4 (by have := brk_range (k := t.Kind) h; simp; omega)⟩
theorem span_open : ∀ (s c : List api_Token) (n p : Int), 0 ≤ n ∧ n ≤ p + c.length → 0 ≤ (span c n s).2.1 ∧ (span c n s).2.1 ≤ p + (span c n s).1.length := by
  intro s
  induction s with
  | nil => intro c n p h; simpa [span] using h
  | cons t s ih =>
    intro c n p h
    rw [span]
    have := brk_range (k := t.Kind) h
    by_cases hk : endK t.Kind = true
    · rw [if_pos hk]; simp; omega
    · rw [if_neg hk]
      exact ih (c ++ [t]) (brk t.Kind n) p (by simp; omega)
def Sorted (l : List api_Token) : Prop := l.Pairwise (fun a b => a.From ≤ b.From)
theorem fc_col {c : List api_Token} {u : api_Token} (h : fc c = some u) (hs : Sorted c) : 0 ≤ colP c := by
  unfold colP
  rw [h]
  dsimp only
  cases c with
  | nil => cases h
  | cons t c =>
    have : u ∈ t :: c := List.mem_of_find?_eq_some h
    rcases List.mem_cons.1 this with rfl | h1
    · simp [hd]
    · have := (List.pairwise_cons.1 hs).1 u h1
      simp only [hd]; omega
theorem fc_none_col {c : List api_Token} (h : fc c = none) : colP c = -1 := by unfold colP; rw [h]
theorem hd_app {c : List api_Token} (t : api_Token) : hd (c ++ [t]) = (match c with | [] => t.From | u :: _ => u.From) := by cases c <;> rfl
theorem ref_l1 (F : Nat) (l : List api_Token) (hs : Small l) (ho : Sorted l) (hn : l.length ≤ 20000) (out : List api_Row) (begun : Bool) : ∀ (s p c : List api_Token) (m : Nat) (n : Int) (r : api_Row),
    l = p ++ c ++ s → s.length < m → 0 ≤ n ∧ n ≤ (p.length : Int) + (c.length : Int) → r.From = p.length → r.Kind = k0 c → r.Col = colP c →
    Wp (correctorref9_Rows_l1 F l m out n ((p.length : Int) + (c.length : Int)) r begun) (fun z => z.1 = out ∧ z.2.1 = (span c n s).2.1 ∧ z.2.2.1 = (p.length : Int) + ((span c n s).1.length : Int) ∧ z.2.2.2.1.From = p.length ∧ z.2.2.2.1.Kind = k0 (span c n s).1 ∧ z.2.2.2.1.Col = colP (span c n s).1 ∧ z.2.2.2.2 = begun) := by
  intro s
  induction s with
  | nil =>
    intro p c m n r h1 h2 h3 h4 h5 h6
    obtain ⟨m, rfl⟩ : ∃ k, m = k + 1 := ⟨m - 1, by omega⟩
    have hl : l.length = p.length + c.length := by rw [h1]; simp
    rw [correctorref9_Rows_l1, if_neg (by omega)]
    exact wpS ⟨rfl, rfl, rfl, h4, h5, h6, rfl⟩
  | cons t s ih =>
    intro p c m n r h1 h2 h3 h4 h5 h6
    obtain ⟨m, rfl⟩ : ∃ k, m = k + 1 := ⟨m - 1, by omega⟩
    simp only [List.length_cons] at h2
    have hl : l.length = p.length + c.length + s.length + 1 := by rw [h1]; simp; omega
    have e1 := mid_lt2 p c s t
    have e2 := get_mid2 p c s t
    rw [← h1] at e1 e2
    have htm : t ∈ l := by rw [h1]; simp
    have hss : Sorted c := by
      have : Sorted l := ho
      rw [h1] at this
      exact (List.pairwise_append.1 (List.pairwise_append.1 this).1).2.1
    rw [correctorref9_Rows_l1]
    simp only [if_pos e1.2, if_pos e1, e2, Option.bind_some]
    refine wpB ?_
    refine Wp.mono (P := fun z : List api_Row × api_Row => z.1 = out ∧ z.2.From = (p.length : Int) ∧ z.2.Kind = k0 (c ++ [t]) ∧ z.2.Col = colP (c ++ [t])) ?_ ?_
    · rcases hf : fc c with _ | u
      · rw [if_pos (by rw [h6, fc_none_col hf]; omega), counts_eq]
        simp only [Option.bind_some]
        by_cases hk : cnt t.Kind = true
        · rw [if_pos hk]
          have hg : (l[r.From.toNat]?).map (·.From) = some (hd (c ++ [t])) := by
            rw [h4, h1, hd_app]
            cases c with
            | nil => simp
            | cons u c => simp
          rw [if_pos (by rw [h4]; omega)]
          obtain ⟨u, hu⟩ : ∃ u, l[r.From.toNat]? = some u := ⟨l[r.From.toNat]'(by rw [h4]; omega), by simp⟩
          rw [hu] at hg ⊢
          simp only [Option.map_some] at hg
          injection hg with hg
          have hum : u ∈ l := List.mem_of_getElem? hu
          have := hs u hum
          have := hs t htm
          have hf2 : fc (c ++ [t]) = some t := by
            unfold fc at hf ⊢
            rw [List.find?_append, hf]; simp [hk]
          simp only [Option.bind_some]
          rw [w64_eq (by omega) (by omega)]
          unfold k0 colP
          rw [hf2]
          dsimp only
          rw [← hg]
          by_cases h20 : t.Kind = 20
          · simp only [h20, if_true]; exact wpS ⟨rfl, h4, by simp, rfl⟩
          · by_cases h21 : t.Kind = 21
            · simp only [h20, h21, if_true, if_false]; exact wpS ⟨rfl, h4, by simp, rfl⟩
            · simp only [h20, h21, if_false]; exact wpS ⟨rfl, h4, by simp, rfl⟩
        · rw [if_neg hk]
          have hf2 : fc (c ++ [t]) = none := by
            unfold fc at hf ⊢
            rw [List.find?_append, hf]; simp [hk]
          refine wpS ⟨rfl, h4, ?_, ?_⟩
          · rw [h5]; unfold k0; rw [hf, hf2]
          · rw [h6, fc_none_col hf, fc_none_col hf2]
      · have := fc_col hf hss
        rw [if_neg (by rw [h6]; omega)]
        have hf2 : fc (c ++ [t]) = some u := by
          unfold fc at hf ⊢
          rw [List.find?_append, hf]; rfl
        refine wpS ⟨rfl, h4, ?_, ?_⟩
        · rw [h5]; unfold k0; rw [hf, hf2]
        · rw [h6]; unfold colP; rw [hf, hf2]
          dsimp only
          rw [hd_app]
          cases c with
          | nil => cases hf
          | cons v c => rfl
    · rintro ⟨out', r'⟩ ⟨q1, q2, q3, q4⟩
      dsimp only at q1 q2 q3 q4 ⊢
      subst q1
      refine wpB ?_
      refine Wp.mono (P := fun z : List api_Row × Int × api_Row => z = (out', brk t.Kind n, r')) ?_ ?_
      · have w1 : w64 (n + 1) = n + 1 := w64_eq (by omega) (by omega)
        have w2 : w64 (n - 1) = n - 1 := w64_eq (by omega) (by omega)
        rw [w1, w2]
        unfold brk
        by_cases k8 : t.Kind = 8
        · simp only [k8]; exact ⟨_, rfl, rfl⟩
        by_cases k9 : t.Kind = 9
        · simp only [k9]; exact ⟨_, rfl, rfl⟩
        by_cases k10 : t.Kind = 10
        · simp only [k10]; exact ⟨_, rfl, rfl⟩
        by_cases k11 : t.Kind = 11
        · simp only [k11]; exact ⟨_, rfl, rfl⟩
        by_cases k20 : t.Kind = 20
        · simp only [k20]; exact ⟨_, rfl, rfl⟩
        by_cases k21 : t.Kind = 21
        · simp only [k21]; exact ⟨_, rfl, rfl⟩
        simp only [k8, k9, k10, k11, k20, k21, if_false, Option.bind_some, or_self]
        exact ⟨_, rfl, rfl⟩
      · rintro _ rfl
        dsimp only
        have h1' : l = p ++ (c ++ [t]) ++ s := by rw [h1]; simp
        have ew : w64 ((p.length : Int) + (c.length : Int) + 1) = (p.length : Int) + ((c ++ [t]).length : Int) := by rw [w64_eq (by omega) (by omega)]; simp; omega
        rw [ew]
        by_cases hk1 : t.Kind = 1
        · rw [if_pos hk1, span, if_pos (by simp [endK, hk1])]
          exact wpS ⟨rfl, rfl, rfl, q2, q3, q4, rfl⟩
        · rw [if_neg hk1]
          by_cases hk2 : t.Kind = 19
          · rw [if_pos hk2, span, if_pos (by simp [endK, hk2])]
            exact wpS ⟨rfl, rfl, rfl, q2, q3, q4, rfl⟩
          · rw [if_neg hk2, span, if_neg (by simp [endK, hk1, hk2])]
            exact ih p (c ++ [t]) m _ r' h1' (by omega) (by have := brk_range (k := t.Kind) h3; simp; omega) q2 q3 q4
theorem ref_l0 (F : Nat) (l : List api_Token) (hs : Small l) (ho : Sorted l) (hn : l.length ≤ 20000) (hF : l.length + 10 < F) : ∀ (m : Nat) (s p : List api_Token) (n : Int) (out : List api_Row),
    l = p ++ s → s.length < m → 0 ≤ n ∧ n ≤ (p.length : Int) → out.length ≤ p.length →
    correctorref9_Rows_l0 F l m out n p.length = some (out ++ goR kR p.length [] n n s) := by
  intro m
  induction m with
  | zero => intro s p n out h1 h2; omega
  | succ m ih =>
    intro s p n out h1 h2 h3 h4
    have hl : l.length = p.length + s.length := by rw [h1]; simp
    rw [correctorref9_Rows_l0]
    by_cases hse : s = []
    · subst hse
      simp only [List.length_nil, Nat.add_zero] at hl
      rw [if_neg (by omega)]
      simp [goR]
    · have hp : 0 < s.length := List.length_pos_iff.2 hse
      rw [if_pos (by omega)]
      have hbeg : ((if (0 : Int) < n then some (out, (⟨1, (p.length : Int), 0, (-1)⟩ : api_Row), true) else some (out, (⟨1, (p.length : Int), 0, (-1)⟩ : api_Row), false)) : Option ((List api_Row) × api_Row × Bool)) = some (out, (⟨1, (p.length : Int), 0, (-1)⟩ : api_Row), decide (0 < n)) := by
        by_cases h : 0 < n
        · rw [if_pos h, decide_eq_true h]
        · rw [if_neg h, decide_eq_false h]
      rw [hbeg]
      simp only [Option.bind_some]
      obtain ⟨⟨o', n', i', r', b'⟩, g0, g1, g2, g3, g4, g5, g6, g7⟩ := ref_l1 F l hs ho hn out (decide (0 < n)) s p [] F n ⟨1, (p.length : Int), 0, (-1)⟩ (by rw [h1]; simp) (by omega) (by simpa using h3) rfl rfl rfl
      dsimp only at g1 g2 g3 g4 g5 g6 g7
      simp only [List.length_nil, Int.add_zero, show ((0 : Nat) : Int) = 0 from rfl] at g0
      rw [g0]
      simp only [Option.bind_some]
      subst g1 g2 g3 g7
      obtain ⟨a1, a2, a3, _⟩ := span_app s [] n
      have a4 := span_open s [] n p.length (by simpa using h3)
      have a5 : 0 < (span [] n s).1.length := by have := a3 hse; simpa using this
      clear a3 a2
      rw [go_span kR s [] _ _ _ (by simp [hse])]
      generalize span [] n s = z at *
      obtain ⟨c, n', s'⟩ := z
      dsimp only at *
      simp only [List.nil_append] at a1
      subst a1
      obtain ⟨t, c', rfl⟩ : ∃ t c', c = t :: c' := by
        cases c with
        | nil => simp at a5
        | cons t c' => exact ⟨t, c', rfl⟩
      have hg : l[r'.From.toNat]? = some t := by rw [g4, h1]; simp
      rw [if_pos (by rw [g4]; omega), hg]
      simp only [Option.bind_some]
      have hrow : ((if t.Kind = (19 : Int) then
                some (o', (⟨2, r'.From, (p.length : Int) + ((t :: c').length : Int), r'.Col⟩ : api_Row))
              else
                if (decide (0 < n)) = true then
                  if r'.Kind = (4 : Int) then
                    some (o', (⟨r'.Kind, r'.From, (p.length : Int) + ((t :: c').length : Int), r'.Col⟩ : api_Row))
                  else
                    some (o', (⟨3, r'.From, (p.length : Int) + ((t :: c').length : Int), r'.Col⟩ : api_Row))
                else
                  some (o', (⟨r'.Kind, r'.From, (p.length : Int) + ((t :: c').length : Int), r'.Col⟩ : api_Row))) : Option ((List api_Row) × api_Row))
          = some (o', ⟨kR (t :: c') n, (p.length : Int), (p.length : Int) + ((t :: c').length : Int), colP (t :: c')⟩) := by
        rw [g4, g5, g6]
        unfold kR hk
        dsimp only
        by_cases h19 : t.Kind = 19
        · simp [h19]
        · by_cases hn0 : 0 < n
          · by_cases hk4 : k0 (t :: c') = 4
            · simp [h19, hn0, hk4]
            · simp [h19, hn0, hk4]
          · simp [h19, hn0]
      rw [hrow]
      simp only [Option.bind_some]
      rw [if_pos (by simp; omega)]
      have := ih s' (p ++ t :: c') n' (o' ++ [⟨kR (t :: c') n, (p.length : Int), (p.length : Int) + ((t :: c').length : Int), colP (t :: c')⟩]) (by rw [h1]; simp) (by simp at h2; omega) (by simp at a4 ⊢; omega) (by simp; omega)
      have ep : ((p ++ t :: c').length : Int) = (p.length : Int) + ((t :: c').length : Int) := by simp
      rw [ep] at this
      rw [this]; simp
theorem ref_eq (F : Nat) (l : List api_Token) (hs : Small l) (ho : Sorted l) (hn : l.length ≤ 20000) (hF : l.length + 10 < F) : correctorref9_Rows F l = some (goR kR 0 [] 0 0 l) := by
  unfold correctorref9_Rows
  have := ref_l0 F l hs ho hn hF F l [] 0 [] rfl (by omega) (by simp) (by simp)
  simp only [List.length_nil, show ((0 : Nat) : Int) = 0 from rfl] at this
  rw [this]; simp
end Go.Proofs.Ytcnbcimnfeekjaa.M
