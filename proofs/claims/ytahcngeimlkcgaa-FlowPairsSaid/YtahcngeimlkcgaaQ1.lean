/- The scanner, plainly: exact steps in brackets. -/
import Derived.Test.YtahcngeimlkcgaaP9T
namespace Go.Proofs.Ytahcngeimlkcgaa.M
open Go Am Sy
set_option linter.unusedVariables false
set_option linter.unusedSimpArgs false
set_option maxRecDepth 100000
theorem lt_of_get {α : Type} {l : List α} {i : Nat} {c : α} (h : l[i]? = some c) : i < l.length := by
 obtain ⟨h1, _⟩ := List.getElem?_eq_some_iff.1 h
 omega
theorem byte_lt (c : UInt8) : 0 ≤ (c.toNat : Int) ∧ (c.toNat : Int) < 256 := by
 have : c.toNat < 256 := c.toBitVec.isLt
 omega
theorem break_at (F : Nat) {B : List UInt8} {i : Nat} {c : UInt8} (h : B[i]? = some c) (h13 : (c.toNat : Int) ≠ 13) (h10 : (c.toNat : Int) ≠ 10) : correctorref2_Break F B (i : Int) = some 0 := by
 have hi := lt_of_get h
 unfold correctorref2_Break
 rw [if_neg (by omega)]
 have hi' : 0 ≤ (i : Int) ∧ (i : Int) < (B.length : Int) := by omega
 simp only [if_pos hi', Int.toNat_natCast, h, Option.bind_some, if_neg h13, if_neg h10]
theorem blank_eq (F : Nat) (c : Int) : correctorref5_Blank F c = some (c == 32 || c == 9) := by
 unfold correctorref5_Blank
 repeat' split
 all_goals simp_all
theorem flow_eq (F : Nat) (c : Int) (h : c = 44 ∨ c = 93 ∨ c = 125) : correctorref5_Flow F c = some true := by
 unfold correctorref5_Flow
 rcases h with rfl | rfl | rfl <;> rfl
theorem byteAt_eq (F : Nat) (s : correctorref6_scanner) {i : Nat} {c : UInt8} (h : s.B[i]? = some c) : correctorref6_scanner_byteAt F s (i : Int) = some (c.toNat : Int) := by
 have hi := lt_of_get h
 unfold correctorref6_scanner_byteAt
 rw [if_neg (by omega), if_neg (by omega), if_pos (by omega), Int.toNat_natCast, h]
 rfl
theorem colon_no (F : Nat) (s : correctorref6_scanner) {i : Nat} {c : UInt8} (h : s.B[i]? = some c) (h58 : (c.toNat : Int) ≠ 58) : correctorref6_scanner_colon F s (i : Int) = some false := by
 unfold correctorref6_scanner_colon
 rw [byteAt_eq F s h]
 simp only [Option.bind_some]
 rw [if_neg (by simpa using h58)]
theorem w1n {i : Nat} (h : i ≤ 100000) : w64 ((i : Int) + 1) = ((i + 1 : Nat) : Int) := by rw [w64_eq (by omega) (by omega)]; omega
theorem colon_yes (F : Nat) (s : correctorref6_scanner) {i : Nat} {c d : UInt8} (h : s.B[i]? = some c) (h58 : (c.toNat : Int) = 58) (hd : s.B[i + 1]? = some d) (h32 : (d.toNat : Int) = 32) (hn : s.B.length ≤ 20000) : correctorref6_scanner_colon F s (i : Int) = some true := by
 have hi := lt_of_get h
 have hi2 := lt_of_get hd
 unfold correctorref6_scanner_colon
 rw [byteAt_eq F s h]
 simp only [Option.bind_some]
 rw [if_pos (by simpa using h58), if_pos (by omega), w1n (by omega)]
 unfold correctorref6_scanner_ended
 rw [if_neg (by omega), if_pos (by omega), Int.toNat_natCast, hd]
 simp only [Option.bind_some, blank_eq, h32]
 rfl
theorem wrap_small : ∀ k : Fin 128, IntKind.wrap .i32 (k.val : Int) = (k.val : Int) := by decide +kernel
theorem next_at (F : Nat) {B : List UInt8} {i : Nat} {c : UInt8} (h : B[i]? = some c) (hc : (c.toNat : Int) < 128) :
  correctorref1_Next F ((B.take (B.length : Int).toNat).drop ((i : Int)).toNat) = some ((c.toNat : Int), 1) := by
 obtain ⟨h1, h2⟩ := List.getElem?_eq_some_iff.1 h
 have e : (B.take (B.length : Int).toNat).drop ((i : Int)).toNat = c :: B.drop (i + 1) := by
  rw [Int.toNat_natCast, Int.toNat_natCast, List.take_length, List.drop_eq_getElem_cons h1, h2]
 rw [e]
 unfold correctorref1_Next
 rw [if_neg (by simp; omega), if_pos (by simp)]
 have : (c :: B.drop (i + 1))[(0 : Int).toNat]? = some c := rfl
 rw [this]
 simp only [Option.bind_some, if_pos hc]
 have := wrap_small ⟨c.toNat, by omega⟩
 dsimp only at this
 rw [this]
structure S6 (B : List UInt8) (i : Nat) (o : Int) (L : List api_Token) (s : correctorref6_scanner) : Prop where
 b : s.B = B
 a : s.At = i
 r : s.Row = 0
 o : s.Open = o
 l : s.L = L
theorem add6 (F : Nat) {B : List UInt8} {i : Nat} {o : Int} {L : List api_Token} {s : correctorref6_scanner} (h : S6 B i o L s) (hl : L.length ≤ 20000) (k : Int) (to : Nat) :
  ∃ r, correctorref6_scanner_add F s k (to : Int) = some r ∧ S6 B to o (L ++ [⟨k, (i : Int), (to : Int)⟩]) r := by
 obtain ⟨r, h1, h2, h3, h4, h5, h6⟩ := add_wp F s k (to : Int) (by rw [h.l]; exact hl)
 exact ⟨r, h1, h2.trans h.b, h3, h4.trans h.r, h5.trans h.o, by rw [h6, h.l, h.a]⟩
theorem mark_no (F : Nat) (s : correctorref6_scanner) {i : Nat} {c : UInt8} (h : s.B[i]? = some c) (hc : (c.toNat : Int) ≠ 45 ∧ (c.toNat : Int) ≠ 46) (hn : s.B.length ≤ 20000) : correctorref6_scanner_mark F s (i : Int) = some 0 := by
 have hi := lt_of_get h
 have : Wp (correctorref6_scanner_mark F s (i : Int)) (fun r => r = 0) := by
  unfold correctorref6_scanner_mark
  have e1 : w64 ((i : Int) + 1) = i + 1 := w64_eq (by omega) (by omega)
  have e2 : w64 ((i : Int) + 2) = i + 2 := w64_eq (by omega) (by omega)
  have e3 : w64 ((i : Int) + 3) = i + 3 := w64_eq (by omega) (by omega)
  simp only [e1, e2, e3, byteAt_eq F s h, Option.bind_some]
  (repeat' (first | with_reducible refine wpB ?_ | (with_reducible refine wpI ?_ ?_ <;> intro _) | (with_reducible refine wpG (by assumption) ?_; intro _ _) | with_reducible refine wpS ?_ | (with_reducible refine wpN ?_; omega) | dsimp only))
  refine (ended_wp _ _ _ (by omega) hn).mono ?_
  intro r _
  (repeat' (first | with_reducible refine wpB ?_ | (with_reducible refine wpI ?_ ?_ <;> intro _) | (with_reducible refine wpG (by assumption) ?_; intro _ _) | with_reducible refine wpS ?_ | (with_reducible refine wpN ?_; omega) | dsimp only))
  all_goals first | rfl | (exfalso; simp_all; done) | (exfalso; simp_all; omega)
 obtain ⟨a, h1, h2⟩ := this
 rw [h1, h2]
theorem mark_part (F : Nat) {B : List UInt8} {i : Nat} {o : Int} {L : List api_Token} {s : correctorref6_scanner} (h : S6 B i o L s) {c : UInt8} (hc : B[i]? = some c) (hm : (c.toNat : Int) ≠ 45 ∧ (c.toNat : Int) ≠ 46) (hn : B.length ≤ 20000) :
  ((if s.At = s.Row then
     (correctorref6_scanner_mark F s s.At).bind fun r9362 =>
     some (s, r9362)
    else
     some (s, 0)) : Option (correctorref6_scanner × Int)) = some (s, 0) := by
 by_cases hr : s.At = s.Row
 ·rw [if_pos hr, h.a, mark_no F s (i := i) (c := c) (by rw [h.b]; exact hc) hm (by rw [h.b]; exact hn)]
  rfl
 ·rw [if_neg hr]
theorem no_space (F : Nat) {B : List UInt8} {i : Nat} {o : Int} {L : List api_Token} {s : correctorref6_scanner} (h : S6 B i o L s) {c : UInt8} (hc : B[i]? = some c) (q : (c.toNat : Int) ≠ 13 ∧ (c.toNat : Int) ≠ 10 ∧ (c.toNat : Int) ≠ 32 ∧ (c.toNat : Int) ≠ 9 ∧ (c.toNat : Int) ≠ 35) : correctorref6_scanner_space F s = some (false, s) := by
 have hi := lt_of_get hc
 obtain ⟨q3, q4, q5, q6, q7⟩ := q
 unfold correctorref6_scanner_space
 rw [h.b, h.a, h.r, if_pos (by omega), Int.toNat_natCast, hc]
 simp only [Option.bind_some]
 rw [break_at F hc q3 q4]
 simp only [Option.bind_some]
 rw [if_neg (by decide), if_neg q5]
 simp only [ite_self, Option.bind_some, Bool.false_eq_true, if_false, blank_eq]
 rw [if_neg (by simp; omega), if_neg q7]
 rfl
theorem to_bracket (F : Nat) {B : List UInt8} {i : Nat} {o : Int} {L : List api_Token} {s : correctorref6_scanner} (h : S6 B i o L s) {c : UInt8} (hc : B[i]? = some c) (q : (c.toNat : Int) ≠ 45 ∧ (c.toNat : Int) ≠ 46 ∧ (c.toNat : Int) ≠ 13 ∧ (c.toNat : Int) ≠ 10 ∧ (c.toNat : Int) ≠ 32 ∧ (c.toNat : Int) ≠ 9 ∧ (c.toNat : Int) ≠ 35) (hn : B.length ≤ 20000) (m : Nat) :
  correctorref6_Tokens_l0 F B (m + 1) s = (correctorref6_scanner_bracket F s).bind fun r365 =>
   if r365.1 = true then
    correctorref6_Tokens_l0 F B m r365.2
   else
    (correctorref6_scanner_word F r365.2).bind fun r382 =>
    correctorref6_Tokens_l0 F B m r382 := by
 have hi := lt_of_get hc
 rw [correctorref6_Tokens_l0, if_pos (by rw [h.a]; omega), mark_part F h hc ⟨q.1, q.2.1⟩ hn]
 simp only [Option.bind_some]
 rw [if_neg (by decide), no_space F h hc q.2.2]
 simp only [Option.bind_some, Bool.false_eq_true, if_false]
theorem to_word (F : Nat) {B : List UInt8} {i : Nat} {o : Int} {L : List api_Token} {s : correctorref6_scanner} (h : S6 B i o L s) {c : UInt8} (hc : B[i]? = some c) (q : (c.toNat : Int) ≠ 45 ∧ (c.toNat : Int) ≠ 46 ∧ (c.toNat : Int) ≠ 13 ∧ (c.toNat : Int) ≠ 10 ∧ (c.toNat : Int) ≠ 32 ∧ (c.toNat : Int) ≠ 9 ∧ (c.toNat : Int) ≠ 35) (q' : (c.toNat : Int) ≠ 91 ∧ (c.toNat : Int) ≠ 123 ∧ (c.toNat : Int) ≠ 93 ∧ (c.toNat : Int) ≠ 125 ∧ (c.toNat : Int) ≠ 44) (hn : B.length ≤ 20000) (r : correctorref6_scanner)
  (hw : correctorref6_scanner_word F s = some r) (m : Nat) : correctorref6_Tokens_l0 F B (m + 1) s = correctorref6_Tokens_l0 F B m r := by
 have hi := lt_of_get hc
 obtain ⟨q8, q9, q10, q11, q12⟩ := q'
 rw [to_bracket F h hc q hn]
 have hbr : correctorref6_scanner_bracket F s = some (false, s) := by
  unfold correctorref6_scanner_bracket
  rw [h.b, h.a, if_pos (by omega), Int.toNat_natCast, hc]
  simp only [Option.bind_some]
  rw [if_neg q8, if_neg q9, if_neg q10, if_neg q11, if_neg q12]
  rfl
 rw [hbr]
 simp only [Option.bind_some, Bool.false_eq_true, if_false]
 rw [hw]
 rfl
def Nx (F : Nat) (B : List UInt8) (s : correctorref6_scanner) (P : correctorref6_scanner → Prop) : Prop := ∃ s', P s' ∧ ∀ m, correctorref6_Tokens_l0 F B (m + 1) s = correctorref6_Tokens_l0 F B m s'
end Go.Proofs.Ytahcngeimlkcgaa.M
