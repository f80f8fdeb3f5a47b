/- The scanner, plainly: exact steps. -/
import Derived.Test.YtcnbcimnfeekjaaP9C
namespace Go.Proofs.Ytcnbcimnfeekjaa.M
open Go Am Sy
set_option linter.unusedVariables false
set_option linter.unusedSimpArgs false
set_option maxRecDepth 100000
/-- One step of the scanner: a token more. -/
def Nx (F : Nat) (B : List UInt8) (s : correctorref6_scanner) (P : correctorref6_scanner → Prop) : Prop := ∃ s', P s' ∧ ∀ m, correctorref6_Tokens_l0 F B (m + 1) s = correctorref6_Tokens_l0 F B m s'
theorem mark_part (F : Nat) {B : List UInt8} {i row : Int} {L : List api_Token} {s : correctorref6_scanner} (h : S5 B i row L s) (h0 : 0 ≤ i) {c : UInt8} (hc : B[i.toNat]? = some c) (hm : i = row → (c.toNat : Int) ≠ 45 ∧ (c.toNat : Int) ≠ 46) (hn : B.length ≤ 20000) :
    ((if s.At = s.Row then
          (correctorref6_scanner_mark F s s.At).bind fun r9362 =>
          some (s, r9362)
        else
          some (s, 0)) : Option (correctorref6_scanner × Int)) = some (s, 0) := by
  by_cases hr : s.At = s.Row
  · rw [if_pos hr, mark_no F s (c := c) (by rw [h.b, h.a]; exact hc) (by rw [h.a]; exact h0) (hm (by rw [← h.a, hr, h.r])) (by rw [h.b]; exact hn)]
    rfl
  · rw [if_neg hr]
theorem sp_l0 (F : Nat) (s : correctorref6_scanner) (i e : Int) (h0 : 0 ≤ i) (he : e ≤ s.B.length) (hn : s.B.length ≤ 20000) (h32 : ∀ k : Int, i ≤ k → k < e → ∃ c, s.B[k.toNat]? = some c ∧ (c.toNat : Int) = 32)
    (hst : ∃ d, s.B[e.toNat]? = some d ∧ (d.toNat : Int) ≠ 32) : ∀ (m : Nat) (x : Int), i ≤ x → x ≤ e → e - x < m → correctorref6_scanner_space_l0 F s m x = some e := by
  intro m
  induction m with
  | zero => intro x h1 h2 h3; omega
  | succ m ih =>
    intro x h1 h2 h3
    rw [correctorref6_scanner_space_l0]
    by_cases hx : x < e
    · obtain ⟨c, hc, k⟩ := h32 x h1 hx
      rw [if_pos (by omega), if_pos (by omega), hc]
      simp only [Option.bind_some]
      rw [if_pos k, w64_eq (by omega) (by omega)]
      exact ih _ (by omega) (by omega) (by omega)
    · have : x = e := by omega
      subst this
      obtain ⟨d, hd, k⟩ := hst
      have hi := lt_of_get hd (by omega)
      rw [if_pos hi.2, if_pos hi, hd]
      simp only [Option.bind_some]
      rw [if_neg k]
theorem bl_l1 (F : Nat) (s : correctorref6_scanner) (i e : Int) (h0 : 0 ≤ i) (he : e ≤ s.B.length) (hn : s.B.length ≤ 20000) (h32 : ∀ k : Int, i ≤ k → k < e → ∃ c, s.B[k.toNat]? = some c ∧ ((c.toNat : Int) = 32 ∨ (c.toNat : Int) = 9))
    (hst : ∃ d, s.B[e.toNat]? = some d ∧ (d.toNat : Int) ≠ 32 ∧ (d.toNat : Int) ≠ 9) : ∀ (m : Nat) (x : Int), i ≤ x → x ≤ e → e - x < m → correctorref6_scanner_space_l1 F s m x = some e := by
  intro m
  induction m with
  | zero => intro x h1 h2 h3; omega
  | succ m ih =>
    intro x h1 h2 h3
    rw [correctorref6_scanner_space_l1]
    by_cases hx : x < e
    · obtain ⟨c, hc, k⟩ := h32 x h1 hx
      rw [if_pos (by omega), if_pos (by omega), hc]
      simp only [Option.bind_some, blank_eq]
      rw [if_pos (by simpa using k), w64_eq (by omega) (by omega)]
      exact ih _ (by omega) (by omega) (by omega)
    · have : x = e := by omega
      subst this
      obtain ⟨d, hd, k⟩ := hst
      have hi := lt_of_get hd (by omega)
      rw [if_pos hi.2, if_pos hi, hd]
      simp only [Option.bind_some, blank_eq]
      rw [if_neg (by simpa using k)]
theorem step_indent (F : Nat) {B : List UInt8} {i : Int} {L : List api_Token} {s : correctorref6_scanner} (h : S5 B i i L s) (hl : L.length ≤ 20000) (e : Int) (h0 : 0 ≤ i) (hie : i < e) (he : e ≤ B.length) (hn : B.length ≤ 20000) (hF : B.length + 10 < F)
    (h32 : ∀ k : Int, i ≤ k → k < e → ∃ c, B[k.toNat]? = some c ∧ (c.toNat : Int) = 32) (hst : ∃ d, B[e.toNat]? = some d ∧ (d.toNat : Int) ≠ 32) : Nx F B s (S5 B e i (L ++ [⟨2, i, e⟩])) := by
  obtain ⟨r, hr, hS⟩ := add5 F h hl 2 e
  refine ⟨r, hS, ?_⟩
  intro m
  obtain ⟨c, hc, k⟩ := h32 i (Int.le_refl _) hie
  have hi := lt_of_get hc h0
  have hb := h.b
  have ha := h.a
  have hro := h.r
  rw [correctorref6_Tokens_l0, if_pos (by rw [ha]; exact hi.2), mark_part F h h0 hc (fun _ => by omega) hn]
  simp only [Option.bind_some]
  rw [if_neg (by decide)]
  have hsp : correctorref6_scanner_space F s = some (true, r) := by
    unfold correctorref6_scanner_space
    rw [hb, ha, hro, if_pos hi, hc]
    simp only [Option.bind_some]
    rw [break_at F hc h0 (by omega), if_neg (by omega)]
    simp only [Option.bind_some]
    rw [if_neg (by decide), if_pos trivial, if_pos k]
    simp only [Option.bind_some, if_true]
    rw [sp_l0 F s i e h0 (by rw [hb]; exact he) (by rw [hb]; exact hn) (by rw [hb]; exact h32) (by rw [hb]; exact hst) F i (Int.le_refl _) (by omega) (by omega)]
    simp only [Option.bind_some]
    rw [hr]
    rfl
  rw [hsp]
  rfl
theorem step_blank (F : Nat) {B : List UInt8} {i row : Int} {L : List api_Token} {s : correctorref6_scanner} (h : S5 B i row L s) (hl : L.length ≤ 20000) (e : Int) (h0 : 0 ≤ i) (hie : i < e) (he : e ≤ B.length) (hn : B.length ≤ 20000) (hF : B.length + 10 < F)
    (h32 : ∀ k : Int, i ≤ k → k < e → ∃ c, B[k.toNat]? = some c ∧ ((c.toNat : Int) = 32 ∨ (c.toNat : Int) = 9)) (hst : ∃ d, B[e.toNat]? = some d ∧ (d.toNat : Int) ≠ 32 ∧ (d.toNat : Int) ≠ 9)
    (hrow : i ≠ row ∨ ∃ c, B[i.toNat]? = some c ∧ (c.toNat : Int) = 9) : Nx F B s (S5 B e row (L ++ [⟨3, i, e⟩])) := by
  obtain ⟨r, hr, hS⟩ := add5 F h hl 3 e
  refine ⟨r, hS, ?_⟩
  intro m
  obtain ⟨c, hc, k⟩ := h32 i (Int.le_refl _) hie
  have hi := lt_of_get hc h0
  have hb := h.b
  have ha := h.a
  have hro := h.r
  rw [correctorref6_Tokens_l0, if_pos (by rw [ha]; exact hi.2), mark_part F h h0 hc (fun _ => by omega) hn]
  simp only [Option.bind_some]
  rw [if_neg (by decide)]
  have hsp : correctorref6_scanner_space F s = some (true, r) := by
    unfold correctorref6_scanner_space
    rw [hb, ha, hro, if_pos hi, hc]
    simp only [Option.bind_some]
    rw [break_at F hc h0 (by omega), if_neg (by omega)]
    simp only [Option.bind_some]
    rw [if_neg (by decide)]
    have hfl : ((if i = row then
          if (c.toNat : Int) = (32 : Int) then
            some true
          else
            some false
        else
          some false) : Option Bool) = some false := by
      by_cases hir : i = row
      · rw [if_pos hir]
        rcases hrow with hrow | ⟨c', hc', h9⟩
        · exact absurd hir hrow
        · rw [hc] at hc'; injection hc' with hc'; subst hc'
          rw [if_neg (by omega)]
      · rw [if_neg hir]
    rw [hfl]
    simp only [Option.bind_some, Bool.false_eq_true, if_false, blank_eq]
    rw [if_pos (by simpa using k)]
    rw [bl_l1 F s i e h0 (by rw [hb]; exact he) (by rw [hb]; exact hn) (by rw [hb]; exact h32) (by rw [hb]; exact hst) F i (Int.le_refl _) (by omega) (by omega)]
    simp only [Option.bind_some]
    rw [hr]
    rfl
  rw [hsp]
  rfl
theorem step_break (F : Nat) {B : List UInt8} {i row : Int} {L : List api_Token} {s : correctorref6_scanner} (h : S5 B i row L s) (hl : L.length ≤ 20000) (h0 : 0 ≤ i) {c : UInt8} (hc : B[i.toNat]? = some c) (h10 : (c.toNat : Int) = 10) (hn : B.length ≤ 20000) :
    Nx F B s (S5 B (i + 1) (i + 1) (L ++ [⟨1, i, i + 1⟩])) := by
  obtain ⟨r, hr, hS⟩ := add5 F h hl 1 (i + 1)
  have hi := lt_of_get hc h0
  have hb := h.b
  have ha := h.a
  have hro := h.r
  refine ⟨⟨r.B, r.At, r.At, r.Open, -1, true, r.Text, r.L⟩, ⟨hS.b, hS.a, hS.a, hS.o, hS.t, hS.l⟩, ?_⟩
  intro m
  rw [correctorref6_Tokens_l0, if_pos (by rw [ha]; exact hi.2), mark_part F h h0 hc (fun _ => by omega) hn]
  simp only [Option.bind_some]
  rw [if_neg (by decide)]
  have hsp : correctorref6_scanner_space F s = some (true, ⟨r.B, r.At, r.At, r.Open, -1, true, r.Text, r.L⟩) := by
    unfold correctorref6_scanner_space
    rw [hb, ha, hro, if_pos hi, hc]
    simp only [Option.bind_some]
    rw [break_at F hc h0 (by omega), if_pos h10]
    simp only [Option.bind_some]
    rw [if_pos (by decide), w64_eq (by omega) (by omega), hr]
    simp only [Option.bind_some]
    unfold correctorref6_scanner_next
    simp only [Option.bind_some]
    rw [if_neg (by rw [hS.t]; decide)]
    rfl
  rw [hsp]
  rfl
/-- At a byte that is no blank, no break, no sign, no bracket: it is for 'word'. -/
theorem to_word (F : Nat) {B : List UInt8} {i row : Int} {L : List api_Token} {s : correctorref6_scanner} (h : S5 B i row L s) (h0 : 0 ≤ i) {c : UInt8} (hc : B[i.toNat]? = some c) (hk : Lo c ∨ (c.toNat : Int) = 58) (hn : B.length ≤ 20000) (r : correctorref6_scanner)
    (hw : correctorref6_scanner_word F s = some r) : ∀ m, correctorref6_Tokens_l0 F B (m + 1) s = correctorref6_Tokens_l0 F B m r := by
  intro m
  have hi := lt_of_get hc h0
  have hb := h.b
  have ha := h.a
  have hro := h.r
  have ho := h.o
  have q : (c.toNat : Int) ≠ 45 ∧ (c.toNat : Int) ≠ 46 ∧ (c.toNat : Int) ≠ 13 ∧ (c.toNat : Int) ≠ 10 ∧ (c.toNat : Int) ≠ 32 ∧ (c.toNat : Int) ≠ 9 ∧ (c.toNat : Int) ≠ 35 ∧ (c.toNat : Int) ≠ 91 ∧ (c.toNat : Int) ≠ 123 ∧ (c.toNat : Int) ≠ 93 ∧ (c.toNat : Int) ≠ 125 ∧ (c.toNat : Int) ≠ 44 := by
    unfold Lo at hk; omega
  obtain ⟨q1, q2, q3, q4, q5, q6, q7, q8, q9, q10, q11, q12⟩ := q
  rw [correctorref6_Tokens_l0, if_pos (by rw [ha]; exact hi.2), mark_part F h h0 hc (fun _ => ⟨q1, q2⟩) hn]
  simp only [Option.bind_some]
  rw [if_neg (by decide)]
  have hsp : correctorref6_scanner_space F s = some (false, s) := by
    unfold correctorref6_scanner_space
    rw [hb, ha, hro, if_pos hi, hc]
    simp only [Option.bind_some]
    rw [break_at F hc h0 q3, if_neg q4]
    simp only [Option.bind_some]
    rw [if_neg (by decide), if_neg q5]
    simp only [ite_self, Option.bind_some, Bool.false_eq_true, if_false, blank_eq]
    rw [if_neg (by simp; omega), if_neg q7]
    rfl
  rw [hsp]
  simp only [Option.bind_some, Bool.false_eq_true, if_false]
  have hbr : correctorref6_scanner_bracket F s = some (false, s) := by
    unfold correctorref6_scanner_bracket
    rw [hb, ha, if_pos hi, hc]
    simp only [Option.bind_some]
    rw [if_neg q8, if_neg q9, if_neg q10, if_neg q11, if_neg q12]
    rfl
  rw [hbr]
  simp only [Option.bind_some, Bool.false_eq_true, if_false]
  rw [hw]
  rfl
theorem step_colon (F : Nat) {B : List UInt8} {i row : Int} {L : List api_Token} {s : correctorref6_scanner} (h : S5 B i row L s) (hl : L.length ≤ 20000) (h0 : 0 ≤ i) {c d : UInt8} (hc : B[i.toNat]? = some c) (h58 : (c.toNat : Int) = 58) (hd : B[(i + 1).toNat]? = some d) (h32 : (d.toNat : Int) = 32) (hn : B.length ≤ 20000) (hF : B.length + 10 < F) :
    Nx F B s (S5 B (i + 1) row (L ++ [⟨6, i, i + 1⟩])) := by
  obtain ⟨r, hr, hS⟩ := add5 F h hl 6 (i + 1)
  have hi := lt_of_get hc h0
  have hb := h.b
  have ha := h.a
  refine ⟨r, hS, to_word F h h0 hc (.inr h58) hn r ?_⟩
  obtain ⟨nm, hnm, _⟩ := names_wp F s (i + 1) false (by rw [hb]; omega) (by rw [hb]; exact hn) (by rw [hb]; omega)
  have hcol := colon_yes F s (i := i) (c := c) (d := d) (by rw [hb]; exact hc) h0 h58 (by rw [hb]; exact hd) h32 (by rw [hb]; exact hn)
  unfold correctorref6_scanner_word
  rw [hb, ha, if_pos hi, hc]
  simp only [Option.bind_some]
  rw [if_pos (by omega), next_at F hc h0 (by omega)]
  simp only [Option.bind_some]
  rw [w64_eq (by omega) (by omega), hnm]
  simp only [Option.bind_some]
  rw [if_neg (by omega)]
  simp only [Option.bind_some, Bool.false_eq_true, if_false]
  rw [hcol]
  simp only [Option.bind_some, if_true]
  rw [hr]
  rfl
theorem step_plain (F : Nat) {B : List UInt8} {i row : Int} {L : List api_Token} {s : correctorref6_scanner} (h : S5 B i row L s) (hl : L.length ≤ 20000) (e : Int) (h0 : 0 ≤ i) (hie : i < e) (he : e ≤ B.length) (hn : B.length ≤ 20000) (hF : B.length + 10 < F)
    (hlo : ∀ k : Int, i ≤ k → k < e → ∃ c, B[k.toNat]? = some c ∧ Lo c) (hst : StopAt B e) : Nx F B s (S5 B e row (L ++ [⟨15, i, e⟩])) := by
  obtain ⟨r, hr, hS⟩ := add5 F h hl 15 e
  obtain ⟨c, hc, hk⟩ := hlo i (Int.le_refl _) hie
  have hi := lt_of_get hc h0
  have hb := h.b
  have ha := h.a
  refine ⟨r, hS, to_word F h h0 hc (.inl hk) hn r ?_⟩
  obtain ⟨nm, hnm, _⟩ := names_wp F s (i + 1) false (by rw [hb]; omega) (by rw [hb]; exact hn) (by rw [hb]; omega)
  have q : (c.toNat : Int) ≠ 45 ∧ (c.toNat : Int) ≠ 58 ∧ (c.toNat : Int) ≠ 38 ∧ (c.toNat : Int) ≠ 42 ∧ (c.toNat : Int) ≠ 33 ∧ (c.toNat : Int) ≠ 39 ∧ (c.toNat : Int) ≠ 34 ∧ (c.toNat : Int) ≠ 124 ∧ (c.toNat : Int) ≠ 62 ∧ (c.toNat : Int) < 128 := by
    unfold Lo at hk; omega
  obtain ⟨q1, q2, q3, q4, q5, q6, q7, q8, q9, q10⟩ := q
  have hcol := colon_no F s (i := i) (c := c) (by rw [hb]; exact hc) h0 q2
  have hhd : correctorref6_scanner_head F s = some 0 := by
    unfold correctorref6_scanner_head
    rw [hb, ha, if_pos hi, hc]
    simp only [Option.bind_some]
    rw [if_neg q8, if_neg q9]
    rfl
  have hpl := plain_eq F s e (by rw [ha]; exact h0) (by rw [ha, hb]; omega) (by rw [hb]; exact hn) (by rw [hb]; exact hF) h.o (by rw [ha, hb]; exact hlo) (by rw [hb]; exact hst)
  unfold correctorref6_scanner_word
  rw [hb, ha, if_pos hi, hc]
  simp only [Option.bind_some]
  rw [if_pos (by omega), next_at F hc h0 q10]
  simp only [Option.bind_some]
  rw [w64_eq (by omega) (by omega), hnm]
  simp only [Option.bind_some]
  rw [if_neg q1]
  simp only [Option.bind_some, Bool.false_eq_true, if_false]
  rw [hcol]
  simp only [Option.bind_some, Bool.false_eq_true, if_false, if_neg q3, if_neg q4, if_neg q5, if_neg q6, if_neg q7]
  rw [hhd]
  simp only [Option.bind_some]
  rw [if_neg (by decide), if_neg (by omega), hpl]
  simp only [Option.bind_some]
  rw [hr]
  rfl
end Go.Proofs.Ytcnbcimnfeekjaa.M
