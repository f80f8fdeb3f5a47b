/- RowsAll, plainly. -/
import Derived.Test.YtcnbcimnfeekjaaP9X
import Derived.Test.YtcnbcimnfeekjaaMLA0
namespace Go.Proofs.Ytcnbcimnfeekjaa.M
open Go Am Sy
set_option linter.unusedVariables false
set_option linter.unusedSimpArgs false
set_option maxRecDepth 100000
theorem go_len (K : List api_Token → Int → Int) : ∀ (s c : List api_Token) (f o n : Int), (goR K f c o n s).length ≤ c.length + s.length := by
  intro s
  induction s with
  | nil =>
    intro c f o n
    rw [goR]
    by_cases h : c = []
    · simp [h]
    · have := List.length_pos_iff.2 h
      rw [if_neg h]; simp; omega
  | cons t s ih =>
    intro c f o n
    rw [goR]
    by_cases h : endK t.Kind = true
    · rw [if_pos h]
      have := ih [] (f + ((c ++ [t]).length : Int)) (brk t.Kind n) (brk t.Kind n)
      simp at this ⊢; omega
    · rw [if_neg h]
      have := ih (c ++ [t]) f o (brk t.Kind n)
      simp at this ⊢; omega
theorem all_l1 (F : Nat) (ns : List Int) (raw : List UInt8) (ins : List (List UInt8)) (k : Int) (x : List api_Row) (hx : x.length ≤ 20000) : ∀ (m : Nat) (i : Int), 0 ≤ i → i ≤ x.length → x.length - i < m →
    correctorlaw9_RowsAll_l1 F ns raw m ins k x x i = some (.inl (ins, k)) := by
  intro m
  induction m with
  | zero => intro i h1 h2 h3; omega
  | succ m ih =>
    intro i h1 h2 h3
    rw [correctorlaw9_RowsAll_l1]
    by_cases h : i < x.length
    · rw [if_pos h, if_pos ⟨h1, h⟩]
      obtain ⟨u, hu⟩ : ∃ u, x[i.toNat]? = some u := ⟨x[i.toNat]'(by omega), by simp⟩
      rw [hu]
      simp only [Option.bind_some]
      rw [if_pos ⟨h1, h⟩, if_pos trivial, w64_eq (by omega) (by omega)]
      exact ih _ (by omega) (by omega) (by omega)
    · rw [if_neg h]
theorem all_holds (F : Nat) (ns : List Int) (raw : List UInt8) (hF : F = 3000) : correctorlaw9_RowsAll F ns raw = some true := by
  subst hF
  unfold correctorlaw9_RowsAll
  rw [known9]
  simp only [Option.bind_some, if_true]
  by_cases h200 : (200 : Int) < raw.length
  · rw [if_pos h200]
  · rw [if_neg h200]
    obtain ⟨b, hb, hbl⟩ := text_wp ns raw
    rw [hb]
    simp only [Option.bind_some]
    obtain ⟨l1, hl1, t1⟩ := toks_wp b hbl
    obtain ⟨l2, hl2, t2⟩ := toks_wp raw (by omega)
    have r1 := rows_ref t1 b
    have r2 := rows_ref t2 raw
    have n1 := go_len kP l1 [] 0 0 0
    have n2 := go_len kP l2 [] 0 0 0
    have k1 := t1.len
    have k2 := t2.len
    simp only [List.length_nil, Nat.zero_add] at n1 n2
    have w : ∀ i : Int, 0 ≤ i → i ≤ 2 → w64 (i + 1) = i + 1 := fun i h1 h2 => w64_eq (by omega) (by omega)
    have s0 : correctorlaw9_RowsAll_l0 3000 ns raw 3000 [b, raw] 0 = some (.inl ()) := by
      rw [correctorlaw9_RowsAll_l0, if_pos (by decide), if_pos (by simp)]
      have g0 : [b, raw][(0 : Int).toNat]? = some b := rfl
      rw [g0]
      simp only [Option.bind_some]
      rw [hl1]
      simp only [Option.bind_some]
      rw [if_pos (by simp)]
      rw [r1.1, r1.2]
      simp only [Option.bind_some]
      rw [if_pos trivial, all_l1 3000 ns raw _ _ _ (by omega) 3000 0 (by omega) (by omega) (by omega)]
      simp only [Option.bind_some]
      rw [w 0 (by omega) (by omega), correctorlaw9_RowsAll_l0, if_pos (by decide), if_pos (by simp)]
      have g1 : [b, raw][((0 : Int) + 1).toNat]? = some raw := rfl
      rw [g1]
      simp only [Option.bind_some]
      rw [hl2]
      simp only [Option.bind_some]
      rw [if_pos (by simp)]
      rw [r2.1, r2.2]
      simp only [Option.bind_some]
      rw [if_pos trivial, all_l1 3000 ns raw _ _ _ (by omega) 3000 0 (by omega) (by omega) (by omega)]
      simp only [Option.bind_some]
      rw [w _ (by omega) (by omega), correctorlaw9_RowsAll_l0, if_neg (by decide)]
    rw [s0]
    rfl
end Go.Proofs.Ytcnbcimnfeekjaa.M
