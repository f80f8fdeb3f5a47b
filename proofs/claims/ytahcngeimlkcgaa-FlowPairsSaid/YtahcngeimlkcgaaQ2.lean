/- The scanner, plainly: what is left of a text in brackets, token by token. -/
import Derived.Test.YtahcngeimlkcgaaQ1
namespace Go.Proofs.Ytahcngeimlkcgaa.M
open Go Am Sy
set_option linter.unusedVariables false
set_option linter.unusedSimpArgs false
set_option maxRecDepth 100000
def Sc (F : Nat) (B : List UInt8) (i : Nat) (o : Int) (ks : List Int) : Prop :=
 ∀ (L : List api_Token) (s : correctorref6_scanner), L.length + ks.length ≤ 20000 → S6 B i o L s → ∃ T : List api_Token, T.map (·.Kind) = ks ∧ ∀ m, T.length < m → ∃ s', correctorref6_Tokens_l0 F B m s = some s' ∧ s'.L = L ++ T
theorem Sc.nil (F : Nat) (B : List UInt8) (o : Int) : Sc F B B.length o [] := by
 intro L s _ h
 refine ⟨[], rfl, fun m hm => ?_⟩
 obtain ⟨m, rfl⟩ : ∃ n, m = n + 1 := ⟨m - 1, by simp at hm; omega⟩
 rw [correctorref6_Tokens_l0, if_neg (by rw [h.a]; omega)]
 exact ⟨s, rfl, by rw [h.l, List.append_nil]⟩
theorem Sc.step {F : Nat} {B : List UInt8} {i j : Nat} {o o' k : Int} {ks : List Int} (h : Sc F B j o' ks) (hn : ∀ (L : List api_Token) s, L.length ≤ 20000 → S6 B i o L s → Nx F B s (S6 B j o' (L ++ [⟨k, (i : Int), (j : Int)⟩]))) : Sc F B i o (k :: ks) := by
 intro L s hl hs
 simp only [List.length_cons] at hl
 obtain ⟨s1, h1, h2⟩ := hn L s (by omega) hs
 obtain ⟨T, t1, t2⟩ := h _ s1 (by rw [List.length_append, List.length_singleton]; omega) h1
 refine ⟨⟨k, (i : Int), (j : Int)⟩ :: T, by rw [List.map_cons, t1], fun m hm => ?_⟩
 simp only [List.length_cons] at hm
 obtain ⟨m, rfl⟩ : ∃ n, m = n + 1 := ⟨m - 1, by omega⟩
 obtain ⟨s', u1, u2⟩ := t2 m (by omega)
 exact ⟨s', by rw [h2, u1], by rw [u2, List.append_assoc]; rfl⟩
theorem drop1 {α : Type} {B : List α} {i : Nat} {c : α} {Y : List α} (h : B.drop i = c :: Y) : B.drop (i + 1) = Y := by
 rw [← List.drop_drop, h]; rfl
theorem drop0 {α : Type} {B : List α} {i : Nat} {c : α} {Y : List α} (h : B.drop i = c :: Y) : B[i]? = some c := by
 have := List.getElem?_drop (xs := B) (i := i) (j := 0)
 rw [h] at this
 exact this.symm
theorem drop_nil {α : Type} {B : List α} {i : Nat} {c : α} (h : B.drop i = [c]) : i + 1 = B.length := by
 have := congrArg List.length h
 rw [List.length_drop, List.length_singleton] at this
 omega
section
variable {F : Nat} {B : List UInt8} {i : Nat} {o : Int} {ks : List Int} {Y : List UInt8}
theorem Sc.open (hn : B.length ≤ 10000) {c : UInt8} (hb : B.drop i = c :: Y) {k : Int} (hc : (c = 91 ∧ k = 8) ∨ (c = 123 ∧ k = 9)) (ho : 0 ≤ o ∧ o ≤ 1000) (h : Sc F B (i + 1) (o + 1) ks) : Sc F B i o (k :: ks) := by
 refine h.step fun L s hl hs => ?_
 have hg := drop0 hb
 have hi := lt_of_get hg
 have hw : w64 (o + 1) = o + 1 := w64_eq (by omega) (by omega)
 obtain ⟨r, hr, hS⟩ := add6 F hs hl k (i + 1)
 have q : (c.toNat : Int) = 91 ∨ (c.toNat : Int) = 123 := by rcases hc with ⟨rfl, _⟩ | ⟨rfl, _⟩ <;> decide
 refine ⟨⟨r.B, r.At, r.Row, w64 (r.Open + 1), r.Base, r.Only, r.Text, r.L⟩, ⟨hS.b, hS.a, hS.r, by show w64 (r.Open + 1) = _; rw [hS.o]; exact hw, hS.l⟩, fun m => ?_⟩
 rw [to_bracket F hs hg (by omega) (by omega)]
 unfold correctorref6_scanner_bracket
 rw [hs.b, hs.a, if_pos (by omega), Int.toNat_natCast, hg, w1n (by omega)]
 simp only [Option.bind_some]
 rcases hc with ⟨rfl, rfl⟩ | ⟨rfl, rfl⟩
 ·rw [if_pos (by decide), hr]; rfl
 ·rw [if_neg (by decide), if_pos (by decide), hr]; rfl
theorem Sc.close (hn : B.length ≤ 10000) {c : UInt8} (hb : B.drop i = c :: Y) {k : Int} (hc : (c = 93 ∧ k = 10) ∨ (c = 125 ∧ k = 11)) (ho : 1 ≤ o ∧ o ≤ 1000) (h : Sc F B (i + 1) (o - 1) ks) : Sc F B i o (k :: ks) := by
 refine h.step fun L s hl hs => ?_
 have hg := drop0 hb
 have hi := lt_of_get hg
 have hw : imax (w64 (o - 1)) 0 = o - 1 := by rw [w64_eq (by omega) (by omega)]; unfold imax; split <;> omega
 obtain ⟨r, hr, hS⟩ := add6 F hs hl k (i + 1)
 have q : (c.toNat : Int) = 93 ∨ (c.toNat : Int) = 125 := by rcases hc with ⟨rfl, _⟩ | ⟨rfl, _⟩ <;> decide
 refine ⟨⟨r.B, r.At, r.Row, imax (w64 (r.Open - 1)) 0, r.Base, r.Only, r.Text, r.L⟩, ⟨hS.b, hS.a, hS.r, by show imax (w64 (r.Open - 1)) 0 = _; rw [hS.o]; exact hw, hS.l⟩, fun m => ?_⟩
 rw [to_bracket F hs hg (by omega) (by omega)]
 unfold correctorref6_scanner_bracket
 rw [hs.b, hs.a, if_pos (by omega), Int.toNat_natCast, hg, w1n (by omega)]
 simp only [Option.bind_some]
 rcases hc with ⟨rfl, rfl⟩ | ⟨rfl, rfl⟩
 ·rw [if_neg (by decide), if_neg (by decide), if_pos (by decide), hr]; rfl
 ·rw [if_neg (by decide), if_neg (by decide), if_neg (by decide), if_pos (by decide), hr]; rfl
theorem Sc.comma (hn : B.length ≤ 10000) (hb : B.drop i = 44 :: Y) (ho : 1 ≤ o) (h : Sc F B (i + 1) o ks) : Sc F B i o (7 :: ks) := by
 refine h.step fun L s hl hs => ?_
 have hg := drop0 hb
 have hi := lt_of_get hg
 obtain ⟨r, hr, hS⟩ := add6 F hs hl 7 (i + 1)
 refine ⟨r, hS, fun m => ?_⟩
 rw [to_bracket F hs hg (by decide) (by omega)]
 unfold correctorref6_scanner_bracket
 rw [hs.b, hs.a, if_pos (by omega), Int.toNat_natCast, hg, w1n (by omega)]
 simp only [Option.bind_some]
 rw [if_neg (by decide), if_neg (by decide), if_neg (by decide), if_neg (by decide), if_pos (by decide), if_pos (by rw [hs.o]; omega), hr]
 rfl
theorem Sc.blank (hF : 10 ≤ F) (hn : B.length ≤ 10000) {d : UInt8} (hi0 : i ≠ 0) (hb : B.drop i = 32 :: d :: Y) (hd : (d.toNat : Int) ≠ 32 ∧ (d.toNat : Int) ≠ 9) (h : Sc F B (i + 1) o ks) : Sc F B i o (3 :: ks) := by
 refine h.step fun L s hl hs => ?_
 have hg := drop0 hb
 have hi := lt_of_get hg
 have hg2 := drop0 (drop1 hb)
 have hi2 := lt_of_get hg2
 obtain ⟨r, hr, hS⟩ := add6 F hs hl 3 (i + 1)
 refine ⟨r, hS, fun m => ?_⟩
 have hl1 : correctorref6_scanner_space_l1 F s F (i : Int) = some ((i + 1 : Nat) : Int) := by
  have : ∀ n, 2 ≤ n → correctorref6_scanner_space_l1 F s n (i : Int) = some ((i + 1 : Nat) : Int) := by
   intro n hn2
   obtain ⟨n, rfl⟩ : ∃ m, n = m + 2 := ⟨n - 2, by omega⟩
   rw [correctorref6_scanner_space_l1, hs.b, if_pos (by omega), if_pos (by omega), Int.toNat_natCast, hg, w1n (by omega)]
   simp only [Option.bind_some, blank_eq]
   rw [if_pos (by decide), correctorref6_scanner_space_l1, hs.b, if_pos (by omega), if_pos (by omega), Int.toNat_natCast, hg2]
   simp only [Option.bind_some, blank_eq]
   rw [if_neg (by simpa using hd)]
  exact this F (by omega)
 have hsp : correctorref6_scanner_space F s = some (true, r) := by
  unfold correctorref6_scanner_space
  rw [hs.b, hs.a, hs.r, if_pos (by omega), Int.toNat_natCast, hg]
  simp only [Option.bind_some]
  rw [break_at F hg (by decide) (by decide)]
  simp only [Option.bind_some]
  rw [if_neg (by decide), if_neg (by omega)]
  simp only [Option.bind_some, Bool.false_eq_true, if_false, blank_eq]
  rw [if_pos (by decide), hl1]
  simp only [Option.bind_some]
  rw [hr]
  rfl
 rw [correctorref6_Tokens_l0, if_pos (by rw [hs.a]; omega), mark_part F hs hg (by decide) (by omega)]
 simp only [Option.bind_some]
 rw [if_neg (by decide), hsp]
 rfl
theorem Sc.colon (hF : B.length + 10 ≤ F) (hn : B.length ≤ 10000) (hb : B.drop i = 58 :: 32 :: Y) (h : Sc F B (i + 1) o ks) : Sc F B i o (6 :: ks) := by
 refine h.step fun L s hl hs => ?_
 have hg := drop0 hb
 have hi := lt_of_get hg
 have hg2 := drop0 (drop1 hb)
 obtain ⟨r, hr, hS⟩ := add6 F hs hl 6 (i + 1)
 have e1 : w64 ((i : Int) + 1) = (i : Int) + 1 := w64_eq (by omega) (by omega)
 obtain ⟨nm, hnm, _⟩ := names_wp F s ((i : Int) + 1) false (by rw [hs.b]; omega) (by rw [hs.b]; omega) (by rw [hs.b]; omega)
 have hcol := colon_yes F s (i := i) (by rw [hs.b]; exact hg) (by decide) (by rw [hs.b]; exact hg2) (by decide) (by rw [hs.b]; omega)
 refine ⟨r, hS, to_word F hs hg (by decide) (by decide) (by omega) r ?_⟩
 unfold correctorref6_scanner_word
 rw [hs.b, hs.a, if_pos (by omega), Int.toNat_natCast, hg]
 simp only [Option.bind_some]
 have hnx := next_at F hg (by decide)
 rw [Int.toNat_natCast] at hnx
 rw [if_pos (by omega), hnx]
 simp only [Option.bind_some]
 rw [e1, hnm]
 simp only [Option.bind_some]
 rw [if_neg (by decide)]
 simp only [Option.bind_some, Bool.false_eq_true, if_false]
 rw [hcol]
 simp only [Option.bind_some, if_true]
 rw [show ((i + 1 : Nat) : Int) = (i : Int) + 1 by omega] at hr
 rw [hr]
 rfl
def Stop (o : Int) (Y : List UInt8) : Prop := (∃ d Z, Y = d :: Z ∧ 1 ≤ o ∧ (d = 44 ∨ d = 93 ∨ d = 125)) ∨ (∃ Z, Y = 58 :: 32 :: Z)
theorem Sc.plain (hF : B.length + 10 ≤ F) (hn : B.length ≤ 10000) {c : UInt8} (hb : B.drop i = c :: Y) (hc : 97 ≤ (c.toNat : Int) ∧ (c.toNat : Int) ≤ 122) (hY : Stop o Y) (h : Sc F B (i + 1) o ks) : Sc F B i o (15 :: ks) := by
 refine h.step fun L s hl hs => ?_
 have hg := drop0 hb
 have hi := lt_of_get hg
 obtain ⟨r, hr, hS⟩ := add6 F hs hl 15 (i + 1)
 have e1 : w64 ((i : Int) + 1) = (i : Int) + 1 := w64_eq (by omega) (by omega)
 obtain ⟨nm, hnm, _⟩ := names_wp F s ((i : Int) + 1) false (by rw [hs.b]; omega) (by rw [hs.b]; omega) (by rw [hs.b]; omega)
 have hcol := colon_no F s (i := i) (by rw [hs.b]; exact hg) (by omega)
 have hnx := next_at F hg (by omega)
 have hhd : correctorref6_scanner_head F s = some 0 := by
  unfold correctorref6_scanner_head
  rw [hs.b, hs.a, if_pos (by omega), Int.toNat_natCast, hg]
  simp only [Option.bind_some]
  rw [if_neg (by omega), if_neg (by omega)]
  rfl
 have hl0 : ∀ n, 1 ≤ n → correctorref6_scanner_plain_l0 F s n ((i + 1 : Nat) : Int) = some ((i + 1 : Nat) : Int) := by
  intro n hn1
  obtain ⟨n, rfl⟩ : ∃ m, n = m + 1 := ⟨n - 1, by omega⟩
  rw [correctorref6_scanner_plain_l0]
  rcases hY with ⟨d, Z, rfl, h1, hd⟩ | ⟨Z, rfl⟩
  ·have hg2 := drop0 (drop1 hb)
   have hi2 := lt_of_get hg2
   have q : (d.toNat : Int) = 44 ∨ (d.toNat : Int) = 93 ∨ (d.toNat : Int) = 125 := by rcases hd with rfl | rfl | rfl <;> decide
   have hb2 : s.B[i + 1]? = some d := by rw [hs.b]; exact hg2
   rw [hs.b, if_pos (by omega), if_pos (by omega), next_at F hg2 (by omega)]
   simp only [Option.bind_some]
   rw [if_neg (by omega), break_at F hg2 (by omega) (by omega)]
   simp only [Option.bind_some]
   rw [if_neg (by decide), colon_no F s hb2 (by omega)]
   simp only [Option.bind_some, Bool.false_eq_true, if_false]
   rw [if_pos (by omega), Int.toNat_natCast, hg2]
   simp only [Option.bind_some]
   rw [if_neg (by omega), if_pos (by rw [hs.o]; omega), if_pos (by omega)]
   rw [flow_eq F _ q]
   rfl
  ·have hg2 := drop0 (drop1 hb)
   have hi2 := lt_of_get hg2
   have hg3 := drop0 (drop1 (drop1 hb))
   rw [hs.b, if_pos (by omega), if_pos (by omega), next_at F hg2 (by decide)]
   simp only [Option.bind_some]
   rw [if_neg (by decide), break_at F hg2 (by decide) (by decide)]
   simp only [Option.bind_some]
   rw [if_neg (by decide), colon_yes F s (by rw [hs.b]; exact hg2) (by decide) (by rw [hs.b]; exact hg3) (by decide) (by rw [hs.b]; omega)]
   rfl
 have hl1 : ∀ n, 1 ≤ n → correctorref6_scanner_plain_l1 F s n ((i + 1 : Nat) : Int) = some ((i + 1 : Nat) : Int) := by
  intro n hn1
  obtain ⟨n, rfl⟩ : ∃ m, n = m + 1 := ⟨n - 1, by omega⟩
  rw [correctorref6_scanner_plain_l1, hs.a, e1, if_neg (by omega)]
 have hpl : correctorref6_scanner_plain F s = some ((i + 1 : Nat) : Int) := by
  unfold correctorref6_scanner_plain
  rw [hs.b, hs.a, if_pos (by omega), hnx]
  simp only [Option.bind_some]
  rw [w1n (by omega), hl0 F (by omega)]
  simp only [Option.bind_some]
  rw [hl1 F (by omega)]
  rfl
 refine ⟨r, hS, to_word F hs hg (by omega) (by omega) (by omega) r ?_⟩
 rw [Int.toNat_natCast] at hnx
 unfold correctorref6_scanner_word
 rw [hs.b, hs.a, if_pos (by omega), Int.toNat_natCast, hg]
 simp only [Option.bind_some]
 rw [if_pos (by omega), hnx]
 simp only [Option.bind_some]
 rw [e1, hnm]
 simp only [Option.bind_some]
 rw [if_neg (by omega)]
 simp only [Option.bind_some, Bool.false_eq_true, if_false]
 rw [hcol]
 simp only [Option.bind_some, Bool.false_eq_true, if_false]
 rw [if_neg (by omega)]
 simp only [Option.bind_some, Bool.false_eq_true, if_false]
 rw [if_neg (by omega)]
 simp only [Option.bind_some, Bool.false_eq_true, if_false]
 rw [if_neg (by omega), if_neg (by omega), if_neg (by omega), hhd]
 simp only [Option.bind_some]
 rw [if_neg (by decide), if_neg (by omega), hpl]
 simp only [Option.bind_some]
 rw [hr]
 rfl
theorem Sc.single (hF : B.length + 10 ≤ F) (hn : B.length ≤ 10000) (hb : B.drop i = 39 :: 101 :: 39 :: 58 :: Y) (h : Sc F B (i + 3) o ks) : Sc F B i o (16 :: ks) := by
 refine h.step fun L s hl hs => ?_
 have hg := drop0 hb
 have hg1 := drop0 (drop1 hb)
 have hg2 := drop0 (drop1 (drop1 hb))
 have hg3 := drop0 (drop1 (drop1 (drop1 hb)))
 have hi := lt_of_get hg3
 obtain ⟨r, hr, hS⟩ := add6 F hs hl 16 (i + 3)
 have e1 : w64 ((i : Int) + 1) = (i : Int) + 1 := w64_eq (by omega) (by omega)
 obtain ⟨nm, hnm, _⟩ := names_wp F s ((i : Int) + 1) false (by rw [hs.b]; omega) (by rw [hs.b]; omega) (by rw [hs.b]; omega)
 have hcol := colon_no F s (i := i) (by rw [hs.b]; exact hg) (by decide)
 have hnx := next_at F hg (by decide)
 obtain ⟨e, he, he1, he2, he3⟩ := rowEnd_wp F s (i : Int) (by rw [hs.b]; omega) (by rw [hs.b]; omega) (by rw [hs.b]; omega)
 have h3e : (i : Int) + 3 ≤ e := by
  rw [hs.b] at he2 he3
  rcases he3 with he3 | ⟨b, hb1, hb2⟩
  ·omega
  ·rcases (by omega : e = (i : Int) ∨ e = ((i + 1 : Nat) : Int) ∨ e = ((i + 2 : Nat) : Int) ∨ (i : Int) + 3 ≤ e) with q | q | q | q
   ·rw [q, break_at F hg (by decide) (by decide)] at hb1
    simp only [Option.some.injEq] at hb1; omega
   ·rw [q, break_at F hg1 (by decide) (by decide)] at hb1
    simp only [Option.some.injEq] at hb1; omega
   ·rw [q, break_at F hg2 (by decide) (by decide)] at hb1
    simp only [Option.some.injEq] at hb1; omega
   ·exact q
 have hl0 : ∀ n, 2 ≤ n → correctorref6_scanner_single_l0 F s ((i : Int) + 1) e n ((i + 1 : Nat) : Int) = some (.inr ((i + 3 : Nat) : Int)) := by
  intro n hn1
  obtain ⟨n, rfl⟩ : ∃ m, n = m + 2 := ⟨n - 2, by omega⟩
  rw [correctorref6_scanner_single_l0, if_pos (by omega), hs.b, if_pos (by omega), Int.toNat_natCast, hg1]
  simp only [Option.bind_some]
  rw [if_neg (by decide), w1n (by omega)]
  simp only [Option.bind_some]
  rw [correctorref6_scanner_single_l0, if_pos (by omega), hs.b, if_pos (by omega), Int.toNat_natCast, hg2]
  simp only [Option.bind_some]
  rw [if_pos (by decide), w1n (by omega)]
  by_cases c : ((i + 1 + 1 + 1 : Nat) : Int) < e
  ·rw [if_pos c, if_pos (by omega), Int.toNat_natCast, hg3]
   simp only [Option.bind_some]
   rw [if_neg (by decide)]
   rfl
  ·rw [if_neg c]
   rfl
 have hsg : correctorref6_scanner_single F s ((i : Int) + 1) e = some ((i + 3 : Nat) : Int) := by
  unfold correctorref6_scanner_single
  have := hl0 F (by omega)
  rw [show ((i + 1 : Nat) : Int) = (i : Int) + 1 by omega] at this
  rw [this]
  rfl
 refine ⟨r, hS, to_word F hs hg (by decide) (by decide) (by omega) r ?_⟩
 rw [Int.toNat_natCast] at hnx
 unfold correctorref6_scanner_word
 rw [hs.b, hs.a, if_pos (by omega), Int.toNat_natCast, hg]
 simp only [Option.bind_some]
 rw [if_pos (by omega), hnx]
 simp only [Option.bind_some]
 rw [e1, hnm]
 simp only [Option.bind_some]
 rw [if_neg (by decide)]
 simp only [Option.bind_some, Bool.false_eq_true, if_false]
 rw [hcol]
 simp only [Option.bind_some, Bool.false_eq_true, if_false]
 rw [if_neg (by decide)]
 simp only [Option.bind_some, Bool.false_eq_true, if_false]
 rw [if_neg (by decide)]
 simp only [Option.bind_some, Bool.false_eq_true, if_false]
 rw [if_neg (by decide), if_pos (by decide), he]
 simp only [Option.bind_some]
 rw [hsg]
 simp only [Option.bind_some]
 rw [hr]
 rfl
end
theorem tokens_sc (F : Nat) (B : List UInt8) (hn : B.length ≤ 10000) {ks : List Int} (hk : ks.length + 10 ≤ F) (hk2 : ks.length ≤ 20000) (h : Sc F B 0 0 ks) : ∃ T : List api_Token, correctorref6_Tokens F B = some T ∧ T.map (·.Kind) = ks := by
 unfold correctorref6_Tokens
 rw [if_neg (by omega)]
 have hnx : correctorref6_scanner_next F (⟨B, 0, 0, 0, 0, false, (-2), []⟩ : correctorref6_scanner) = some ⟨B, 0, 0, 0, -1, true, (-2), []⟩ := rfl
 rw [hnx]
 simp only [Option.bind_some]
 obtain ⟨T, t1, t2⟩ := h [] ⟨B, 0, 0, 0, -1, true, (-2), []⟩ (by simpa using hk2) ⟨rfl, rfl, rfl, rfl, rfl⟩
 obtain ⟨s', u1, u2⟩ := t2 F (by have := congrArg List.length t1; rw [List.length_map] at this; omega)
 rw [u1]
 exact ⟨T, by simp only [Option.bind_some, u2, List.nil_append], t1⟩
end Go.Proofs.Ytahcngeimlkcgaa.M
