/- The scanner, plainly: exact steps at letters, blanks, a colon, a break. -/
import Derived.Test.YtcnbcimnfeekjaaP9X
namespace Go.Proofs.Ytcnbcimnfeekjaa.M
open Go Am Sy
set_option linter.unusedVariables false
set_option linter.unusedSimpArgs false
set_option maxRecDepth 100000
theorem lt_of_get {α : Type} {l : List α} {i : Int} {c : α} (h : l[i.toNat]? = some c) (h0 : 0 ≤ i) : 0 ≤ i ∧ i < (l.length : Int) := by
  obtain ⟨h1, _⟩ := List.getElem?_eq_some_iff.1 h
  omega
def Lo (c : UInt8) : Prop := (97 ≤ (c.toNat : Int) ∧ (c.toNat : Int) ≤ 122) ∨ (c.toNat : Int) = 49
theorem break_at (F : Nat) {B : List UInt8} {i : Int} {c : UInt8} (h : B[i.toNat]? = some c) (h0 : 0 ≤ i) (h13 : (c.toNat : Int) ≠ 13) : correctorref2_Break F B i = some (if (c.toNat : Int) = 10 then 1 else 0) := by
  have hi := lt_of_get h h0
  unfold correctorref2_Break
  rw [if_neg (by omega)]
  simp only [if_pos hi, h, Option.bind_some, if_neg h13]
  by_cases h10 : (c.toNat : Int) = 10
  · simp only [if_pos h10]
  · simp only [if_neg h10]
theorem blank_eq (F : Nat) (c : Int) : correctorref5_Blank F c = some (c == 32 || c == 9) := by
  unfold correctorref5_Blank
  repeat' split
  all_goals simp_all
theorem byteAt_eq (F : Nat) (s : correctorref6_scanner) {i : Int} {c : UInt8} (h : s.B[i.toNat]? = some c) (h0 : 0 ≤ i) : correctorref6_scanner_byteAt F s i = some (c.toNat : Int) := by
  have hi := lt_of_get h h0
  unfold correctorref6_scanner_byteAt
  rw [if_neg (by omega), if_neg (by omega), if_pos hi, h]
  rfl
theorem colon_no (F : Nat) (s : correctorref6_scanner) {i : Int} {c : UInt8} (h : s.B[i.toNat]? = some c) (h0 : 0 ≤ i) (h58 : (c.toNat : Int) ≠ 58) : correctorref6_scanner_colon F s i = some false := by
  unfold correctorref6_scanner_colon
  rw [byteAt_eq F s h h0]
  simp only [Option.bind_some]
  rw [if_neg (by simpa using h58)]
theorem colon_yes (F : Nat) (s : correctorref6_scanner) {i : Int} {c d : UInt8} (h : s.B[i.toNat]? = some c) (h0 : 0 ≤ i) (h58 : (c.toNat : Int) = 58) (hd : s.B[(i + 1).toNat]? = some d) (h32 : (d.toNat : Int) = 32) (hn : s.B.length ≤ 20000) : correctorref6_scanner_colon F s i = some true := by
  have hi := lt_of_get h h0
  have hi2 := lt_of_get hd (by omega)
  unfold correctorref6_scanner_colon
  rw [byteAt_eq F s h h0]
  simp only [Option.bind_some]
  rw [if_pos (by simpa using h58), if_pos hi.2, w64_eq (by omega) (by omega)]
  unfold correctorref6_scanner_ended
  rw [if_neg (by omega), if_pos hi2, hd]
  simp only [Option.bind_some, blank_eq, h32]
  rfl
theorem wrap_small : ∀ k : Fin 128, IntKind.wrap .i32 (k.val : Int) = (k.val : Int) := by decide +kernel
theorem next_at (F : Nat) {B : List UInt8} {i : Int} {c : UInt8} (h : B[i.toNat]? = some c) (h0 : 0 ≤ i) (hc : (c.toNat : Int) < 128) :
    correctorref1_Next F ((B.take (B.length : Int).toNat).drop i.toNat) = some ((c.toNat : Int), 1) := by
  obtain ⟨h1, h2⟩ := List.getElem?_eq_some_iff.1 h
  have e : (B.take (B.length : Int).toNat).drop i.toNat = c :: B.drop (i.toNat + 1) := by
    have : (B.length : Int).toNat = B.length := by simp
    rw [this, List.take_length, List.drop_eq_getElem_cons h1, h2]
  rw [e]
  unfold correctorref1_Next
  rw [if_neg (by simp; omega), if_pos (by simp)]
  have : (c :: B.drop (i.toNat + 1))[(0 : Int).toNat]? = some c := rfl
  rw [this]
  simp only [Option.bind_some, if_pos hc]
  have := wrap_small ⟨c.toNat, by omega⟩
  dsimp only at this
  rw [this]
/-- Where a word's letters stop. -/
def StopAt (B : List UInt8) (e : Int) : Prop := e = B.length ∨ (∃ c, B[e.toNat]? = some c ∧ (c.toNat : Int) = 10) ∨ (∃ c d, B[e.toNat]? = some c ∧ (c.toNat : Int) = 58 ∧ B[(e + 1).toNat]? = some d ∧ (d.toNat : Int) = 32)
theorem plain_eq (F : Nat) (s : correctorref6_scanner) (e : Int) (h0 : 0 ≤ s.At) (he : s.At < e ∧ e ≤ s.B.length) (hn : s.B.length ≤ 20000) (hF : s.B.length + 10 < F) (ho : s.Open = 0)
    (hlo : ∀ k : Int, s.At ≤ k → k < e → ∃ c, s.B[k.toNat]? = some c ∧ Lo c) (hst : StopAt s.B e) : correctorref6_scanner_plain F s = some e := by
  have loc : ∀ c : UInt8, Lo c → (c.toNat : Int) ≠ 13 ∧ (c.toNat : Int) ≠ 10 ∧ (c.toNat : Int) ≠ 58 ∧ (c.toNat : Int) ≠ 35 ∧ (c.toNat : Int) < 128 ∧ (c.toNat : Int) ≠ 32 ∧ (c.toNat : Int) ≠ 9 := by
    intro c hc; rcases hc with hc | hc <;> omega
  have k0 : ∀ (m : Nat) (x : Int), s.At < x → x ≤ e → s.B.length - x < m → correctorref6_scanner_plain_l0 F s m x = some e := by
    intro m
    induction m with
    | zero => intro x h1 h2 h3; omega
    | succ m ih =>
      intro x h1 h2 h3
      rw [correctorref6_scanner_plain_l0]
      by_cases hx : x < e
      · obtain ⟨c, hc, hl⟩ := hlo x (by omega) hx
        obtain ⟨l1, l2, l3, l4, l5, _, _⟩ := loc c hl
        rw [if_pos (by omega), if_pos (by omega), next_at F hc (by omega) l5]
        simp only [Option.bind_some]
        rw [if_neg (by omega), break_at F hc (by omega) l1, if_neg l2]
        simp only [Option.bind_some]
        rw [if_neg (by omega), colon_no F s hc (by omega) l3]
        simp only [Option.bind_some, Bool.false_eq_true, if_false, ho]
        rw [if_pos (by omega), hc]
        simp only [Option.bind_some]
        rw [if_neg l4, if_neg (by omega)]
        simp only [Option.bind_some]
        rw [w64_eq (by omega) (by omega)]
        exact ih _ (by omega) (by omega) (by omega)
      · have hxe : x = e := by omega
        subst hxe
        rcases hst with h | ⟨c, hc, h10⟩ | ⟨c, d, hc, h58, hd, h32⟩
        · rw [if_neg (by omega)]
        · have hi := lt_of_get hc (by omega)
          rw [if_pos hi.2, if_pos (by omega), next_at F hc (by omega) (by omega)]
          simp only [Option.bind_some]
          rw [if_neg (by omega), break_at F hc (by omega) (by omega), if_pos h10]
          simp only [Option.bind_some]
          rw [if_pos (by omega)]
          rfl
        · have hi := lt_of_get hc (by omega)
          rw [if_pos hi.2, if_pos (by omega), next_at F hc (by omega) (by omega)]
          simp only [Option.bind_some]
          rw [if_neg (by omega), break_at F hc (by omega) (by omega), if_neg (by omega)]
          simp only [Option.bind_some]
          rw [if_neg (by omega), colon_yes F s hc (by omega) h58 hd h32 hn]
          simp only [Option.bind_some, if_true]
  unfold correctorref6_scanner_plain
  obtain ⟨c, hc, hl⟩ := hlo s.At (Int.le_refl _) (by omega)
  obtain ⟨l1, l2, l3, l4, l5, _, _⟩ := loc c hl
  rw [if_pos (by omega), next_at F hc (by omega) l5]
  simp only [Option.bind_some]
  rw [w64_eq (by omega) (by omega), k0 F _ (by omega) (by omega) (by omega)]
  simp only [Option.bind_some]
  have k1 : correctorref6_scanner_plain_l1 F s F e = some e := by
    obtain ⟨F', rfl⟩ : ∃ x, F = x + 1 := ⟨F - 1, by omega⟩
    rw [correctorref6_scanner_plain_l1, w64_eq (by omega) (by omega)]
    by_cases h : s.At + 1 < e
    · obtain ⟨d, hd, hl'⟩ := hlo (e - 1) (by omega) (by omega)
      obtain ⟨_, _, _, _, _, l6, l7⟩ := loc d hl'
      rw [if_pos h, w64_eq (by omega) (by omega), if_pos (by omega), hd]
      simp only [Option.bind_some, blank_eq]
      rw [if_neg (by simp; omega)]
    · rw [if_neg h]
  rw [k1]
  rfl
structure S5 (B : List UInt8) (at' row : Int) (L : List api_Token) (s : correctorref6_scanner) : Prop where
  b : s.B = B
  a : s.At = at'
  r : s.Row = row
  o : s.Open = 0
  t : s.Text = -2
  l : s.L = L
theorem add5 (F : Nat) {B : List UInt8} {i row : Int} {L : List api_Token} {s : correctorref6_scanner} (h : S5 B i row L s) (hl : L.length ≤ 20000) (k to : Int) :
    ∃ r, correctorref6_scanner_add F s k to = some r ∧ S5 B to row (L ++ [⟨k, i, to⟩]) r := by
  obtain ⟨h1, h2, h3, h4, h5, h6⟩ := h
  subst h1 h2 h3 h6
  have : Wp (correctorref6_scanner_add F s k to) (fun r => S5 s.B to s.Row (s.L ++ [⟨k, s.At, to⟩]) r) := by
    unfold correctorref6_scanner_add
    rw [counts_eq]
    refine wpB (wpB ?_)
    refine Wp.mono (P := fun _ => True) ?_ ?_
    · (repeat' (first | with_reducible refine wpB ?_ | (with_reducible refine wpI ?_ ?_ <;> intro _) | (with_reducible refine wpG (by assumption) ?_; intro _ _) | with_reducible refine wpS ?_ | (with_reducible refine wpN ?_; omega) | dsimp only)) <;> trivial
    intro c _
    have e : s.L.length + [(⟨k, s.At, to⟩ : api_Token)].length ≤ 5864062014805 := by simp; omega
    (repeat' (first | with_reducible refine wpB ?_ | (with_reducible refine wpI ?_ ?_ <;> intro _) | (with_reducible refine wpG (by assumption) ?_; intro _ _) | with_reducible refine wpS ?_ | (with_reducible refine wpN ?_; omega) | dsimp only))
    all_goals first | exact ⟨rfl, rfl, rfl, h4, h5, rfl⟩ | (exfalso; simp_all; done) | (exfalso; simp_all; omega)
  exact this
theorem mark_no (F : Nat) (s : correctorref6_scanner) {i : Int} {c : UInt8} (h : s.B[i.toNat]? = some c) (h0 : 0 ≤ i) (hc : (c.toNat : Int) ≠ 45 ∧ (c.toNat : Int) ≠ 46) (hn : s.B.length ≤ 20000) : correctorref6_scanner_mark F s i = some 0 := by
  have hi := lt_of_get h h0
  have : Wp (correctorref6_scanner_mark F s i) (fun r => r = 0) := by
    unfold correctorref6_scanner_mark
    have e1 : w64 (i + 1) = i + 1 := w64_eq (by omega) (by omega)
    have e2 : w64 (i + 2) = i + 2 := w64_eq (by omega) (by omega)
    have e3 : w64 (i + 3) = i + 3 := w64_eq (by omega) (by omega)
    simp only [e1, e2, e3, byteAt_eq F s h h0, Option.bind_some]
    (repeat' (first | with_reducible refine wpB ?_ | (with_reducible refine wpI ?_ ?_ <;> intro _) | (with_reducible refine wpG (by assumption) ?_; intro _ _) | with_reducible refine wpS ?_ | (with_reducible refine wpN ?_; omega) | dsimp only))
    refine (ended_wp _ _ _ (by omega) hn).mono ?_
    intro r _
    (repeat' (first | with_reducible refine wpB ?_ | (with_reducible refine wpI ?_ ?_ <;> intro _) | (with_reducible refine wpG (by assumption) ?_; intro _ _) | with_reducible refine wpS ?_ | (with_reducible refine wpN ?_; omega) | dsimp only))
    all_goals first | rfl | (exfalso; simp_all; done) | (exfalso; simp_all; omega)
  obtain ⟨a, h1, h2⟩ := this
  rw [h1, h2]
end Go.Proofs.Ytcnbcimnfeekjaa.M
