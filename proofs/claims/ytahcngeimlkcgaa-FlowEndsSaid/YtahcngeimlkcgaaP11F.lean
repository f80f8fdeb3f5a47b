/- Brackets: pairs, one value, collections, values. -/
import Derived.Test.YtahcngeimlkcgaaP11E
namespace Go.Proofs.Ytahcngeimlkcgaa.M
open Go Am Sy
set_option linter.unusedVariables false
set_option linter.unusedSimpArgs false
theorem pair_ex (F : Nat) (hF : 2500 ≤ F) (rec : Rec) (depth : Int) (hrec : VS rec depth) {n : Int} {r : flow_reader} {p : Int} (h : Rd n r p) (hp : 0 ≤ p) {i colon : Int} (hpi : p ≤ i) (h1 : i ≤ colon) (h2 : colon < r.end_) {up : Nat} (hs : Sp r.t_.Nodes up) (hN : (r.t_.Nodes.length : Int) ≤ 2 * i + 1) (hd : (r.d_.length : Int) ≤ 4 * i) :
  ∃ next r', flow_reader_pair F rec r (up : Int) i colon depth = some (next, r') ∧ colon < next ∧ next ≤ r.end_ ∧ Rd n r' next ∧ To r r' up (2 * (next - i)) (4 * (next - i)) := by
 have he1 := h.ri.e1
 have hnn := h.ri.n
 have hw : w64 (colon + 1) = colon + 1 := w1 (by omega) (by omega)
 obtain ⟨r1, a1, a2, a3, a4, a5, a6, ⟨z, hz, hzf, hzk⟩, _⟩ := add_rd F hF h hp (by omega) hs (kind := 6) (frm := i) (to := colon + 1) (by omega) (by omega) (by omega) hpi
 obtain ⟨r2, b1, b2, b3⟩ := scalar_ex F hF (colon := colon) a2 (by rw [a6]; omega) a4 (i := i) (by omega) h1 (by rw [a3.e]; exact h2) hz hzf hzk
 have t12 := a3.trans b3 (by have := hs.lt h.g; omega)
 have hri2 := b2.ri
 obtain ⟨i2, c1, c2, c3, _⟩ := past_ex F hF r2 hri2 (colon + 1) (by omega) (by omega)
 have he2 : r2.end_ = r.end_ := t12.e
 have hi2 : i2 ≤ r2.end_ := by omega
 have hsz := t12.sz
 have hdl := t12.dl
 obtain ⟨node, next, r3, d1, d2⟩ := hrec n r2 r.t_.Nodes.length i2 ⟨hri2, b2.nl, b2.g, b2.b.mono (by omega), b2.er⟩ (b3.sp _ (Nat.le_refl _) a4) (by omega) hi2 (by omega) (by omega)
 unfold flow_reader_pair
 rw [hw, a1]
 simp only [Option.bind_some, b1, c1, d1]
 rcases d2 with ⟨rfl, rfl, rfl⟩ | ⟨e1, e2, e3, e4, e5⟩
 ·rw [if_neg (by omega)]
  exact ⟨_, _, rfl, by omega, by omega, b2, t12.le (by omega) (by omega)⟩
 ·rw [if_pos e1]
  exact ⟨_, _, rfl, by omega, by omega, e4, (t12.trans e5 (by have := hs.lt h.g; omega)).le (by omega) (by omega)⟩
theorem one_ex (F : Nat) (hF : 2500 ≤ F) (rec : Rec) (depth : Int) (hrec : VS rec depth) {n : Int} {r : flow_reader} {p : Int} (h : Rd n r p) (hp : 0 ≤ p) {i kind : Int} (hpi : p ≤ i) (h2 : i < r.end_) {up : Nat} (hs : Sp r.t_.Nodes up) (hN : (r.t_.Nodes.length : Int) ≤ 2 * i + 1) (hd : (r.d_.length : Int) ≤ 4 * i) :
  ∃ next b r', flow_reader_one F rec r (up : Int) kind i depth = some (next, b, r') ∧ i < next ∧ next ≤ r.end_ ∧ Rd n r' next ∧ To r r' up (2 * (next - i)) (4 * (next - i)) := by
 have he1 := h.ri.e1
 have hnn := h.ri.n
 have hul := hs.lt h.g
 have hw : w64 (i + 1) = i + 1 := w1 (by omega) (by omega)
 have hbad : ∃ r', flow_reader_wrong F (⟨r.l_, r.end_, r.t_, r.d_⟩ : flow_reader) 8 (up : Int) i (i + 1) = some ((r.t_.Nodes.length : Int), r') ∧ Rd n r' (i + 1) ∧ To r r' up (2 * (i + 1 - i)) (4 * (i + 1 - i)) := by
  obtain ⟨r', q1, q2, q3, _⟩ := wrong_rd F hF h hp (by omega) (by omega) hs (code := 8) (frm := i) (to := i + 1) (by omega) (by omega) (by omega) hpi
  exact ⟨r', q1, q2, q3.le (by omega) (by omega)⟩
 obtain ⟨rb, hb1, hb2, hb3⟩ := hbad
 unfold flow_reader_one
 by_cases c : kind = 10
 ·rw [if_pos c]
  obtain ⟨r1, a1, a2, a3, a4, a5, a6, _, _⟩ := add_rd F hF h hp (by omega) hs (kind := 6) (frm := i) (to := i) (by omega) (by omega) (by omega) hpi
  have hlt : r.t_.Nodes.length < r1.t_.Nodes.length := by omega
  simp only [a1, Option.bind_some]
  rw [if_pos (by omega), Int.toNat_natCast, List.getElem?_eq_getElem hlt]
  simp only [Option.bind_some]
  obtain ⟨m1, m2⟩ := mark_rd a2 (i := r.t_.Nodes.length) (x := r1.t_.Nodes[r.t_.Nodes.length]) (List.getElem?_eq_getElem hlt) true
  generalize hr2 : (⟨r1.l_, r1.end_, (⟨r1.t_.Nodes.set r.t_.Nodes.length (⟨r1.t_.Nodes[r.t_.Nodes.length].Kind, r1.t_.Nodes[r.t_.Nodes.length].From, r1.t_.Nodes[r.t_.Nodes.length].To, r1.t_.Nodes[r.t_.Nodes.length].Up, r1.t_.Nodes[r.t_.Nodes.length].Kids, true⟩ : api_Node)⟩ : arena_Tree), r1.d_⟩ : flow_reader) = r2 at *
  have t12 := a3.trans (m2 up) (Nat.le_refl _)
  have hd2 : r2.d_ = r.d_ := by rw [← hr2]; exact a5
  have he2 : r2.end_ = r.end_ := t12.e
  have hl2 : r2.l_ = r.l_ := t12.l
  have hsz := t12.sz
  obtain ⟨node, next, r3, d1, d2⟩ := hrec n r2 r.t_.Nodes.length i m1 ((m2 r.t_.Nodes.length).sp _ (Nat.le_refl _) a4) (by omega) (by omega) (by omega) (by rw [hd2]; exact hd)
  rw [d1]
  simp only [Option.bind_some]
  rcases d2 with ⟨rfl, rfl, rfl⟩ | ⟨e1, e2, e3, e4, e5⟩
  ·rw [if_neg (by omega), hl2, he2, hd2, hw, hb1]
   simp only [Option.bind_some]
   exact ⟨_, _, _, rfl, by omega, by omega, hb2, hb3⟩
  ·rw [if_pos e1]
   exact ⟨_, _, _, rfl, e2, by omega, e4, (t12.trans e5 (by omega)).le (by omega) (by omega)⟩
 ·rw [if_neg c]
  simp only [Option.bind_some]
  obtain ⟨node, next, r3, d1, d2⟩ := hrec n r up i ⟨h.ri, h.nl, h.g, h.b.mono hpi, h.er⟩ hs (by omega) (by omega) (by omega) hd
  rw [d1]
  simp only [Option.bind_some]
  rcases d2 with ⟨rfl, rfl, rfl⟩ | ⟨e1, e2, e3, e4, e5⟩
  ·rw [if_neg (by omega), hw, hb1]
   simp only [Option.bind_some]
   exact ⟨_, _, _, rfl, by omega, by omega, hb2, hb3⟩
  ·rw [if_pos e1]
   exact ⟨_, _, _, rfl, e2, by omega, e4, e5.le (by omega) (by omega)⟩
theorem loop_ex (F : Nat) (hF : 2500 ≤ F) (rec : Rec) (depth : Int) (hd0 : 0 < depth ∧ depth ≤ 1000) (hrec : VS rec (depth - 1)) {n : Int} (a0 : flow_reader) (a1 a2 a3 kind endk : Int) (hend : endk = 10 ∨ endk = 11) (c : Nat) (h3 : 0 ≤ a3) :
  ∀ (d m : Nat) (r : flow_reader) (next : Int) (there : Bool), (r.end_ - next).toNat ≤ d → d < m → Rd n r next → a3 < next → next ≤ r.end_ → Sp r.t_.Nodes c → (r.t_.Nodes.length : Int) ≤ 2 * next + 1 → (r.d_.length : Int) + 1 ≤ 4 * next →
  ∃ q r', flow_reader_collection_l0 F rec a0 a1 a2 a3 depth m r (c : Int) next kind endk there = some ((c : Int), q, r') ∧ next ≤ q ∧ q ≤ r.end_ ∧ Rd n r' q ∧ To r r' c (2 * (q - next)) (4 * (q - next) + 1) := by
 intro d
 induction d with
 | zero =>
  intro m r next there hd hm h hn1 hn2 hs hN hdl
  obtain ⟨m, rfl⟩ : ∃ k, m = k + 1 := ⟨m - 1, by omega⟩
  have he1 := h.ri.e1
  have hnn := h.ri.n
  obtain ⟨i, p1, p2, p3, p4⟩ := past_ex F hF r h.ri next (by omega) (by omega)
  have hi : i = r.end_ := by omega
  have hk0 : kd r i = 0 := by unfold kd; rw [if_pos (by omega)]
  obtain ⟨colon, k1, _⟩ := key_ex F hF r h.ri i (by omega) (by omega)
  rw [flow_reader_collection_l0, p1]
  simp only [Option.bind_some, kind_eq F r h.ri, k1, hk0]
  rw [if_neg (by omega)]
  simp only [if_true]
  have hw : w64 (a3 + 1) = a3 + 1 := w1 (by omega) (by omega)
  obtain ⟨x, t1, t2⟩ := tell_ex F r h.ri 9 a3 (a3 + 1) h3 (by omega) (by omega) (by omega)
  rw [hw, t1]
  simp only [Option.bind_some]
  obtain ⟨t', g1, g2, g3⟩ := grow_rd F hF (r := ⟨r.l_, r.end_, r.t_, r.d_ ++ [x]⟩) ⟨h.ri.of rfl rfl, h.nl, h.g, h.b, by show errs r.t_.Nodes = told (r.d_ ++ [x]); rw [told_snoc, t2, if_pos rfl]; exact h.er⟩ (by show r.t_.Nodes.length ≤ 2400; omega) hs (to := next) hn2 (Int.le_refl _)
  rw [g1]
  refine ⟨next, _, rfl, Int.le_refl _, hn2, g2, ?_⟩
  have := g3 c
  exact ⟨this.l, this.e, by have := this.sz; simp only at this ⊢; omega, this.ge, by have := this.dl; simp only [List.length_append, List.length_singleton] at this ⊢; omega, this.sp⟩
 | succ d ih =>
  intro m r next there hd hm h hn1 hn2 hs hN hdl
  obtain ⟨m, rfl⟩ : ∃ k, m = k + 1 := ⟨m - 1, by omega⟩
  have he1 := h.ri.e1
  have hnn := h.ri.n
  have hul := hs.lt h.g
  obtain ⟨i, p1, p2, p3, p4⟩ := past_ex F hF r h.ri next (by omega) (by omega)
  have hie : i ≤ r.end_ := by omega
  obtain ⟨colon, k1, k2⟩ := key_ex F hF r h.ri i (by omega) (by omega)
  rw [flow_reader_collection_l0, p1]
  simp only [Option.bind_some, kind_eq F r h.ri, k1, mark_eq, ends_eq, decide_eq_true_eq]
  have hw : w64 (i + 1) = i + 1 := w1 (by omega) (by omega)
  have hwd : w64 (depth - 1) = depth - 1 := w64_eq (by omega) (by omega)
  rw [hw, hwd]
  -- how it goes on
  have go : ∀ (next' : Int) (r1 : flow_reader) (b : Bool), i < next' → next' ≤ r.end_ → Rd n r1 next' → To r r1 c (2 * (next' - i)) (4 * (next' - i)) → ∃ q r', flow_reader_collection_l0 F rec a0 a1 a2 a3 depth m r1 (c : Int) next' kind endk b = some ((c : Int), q, r') ∧ next ≤ q ∧ q ≤ r.end_ ∧ Rd n r' q ∧ To r r' c (2 * (q - next)) (4 * (q - next) + 1) := by
   intro next' r1 b z1 z2 z3 z4
   have e1 := z4.e
   have s1 := z4.sz
   have s2 := z4.dl
   obtain ⟨q, r', w1, w2, w3, w4, w5⟩ := ih m r1 next' b (by omega) (by omega) z3 (by omega) (by omega) (z4.sp c (Nat.le_refl _) hs) (by omega) (by omega)
   exact ⟨q, r', w1, by omega, by omega, w4, (z4.trans w5 (Nat.le_refl _)).le (by omega) (by omega)⟩
  have gowrong : ∀ (j : Int), i < j → j ≤ r.end_ → ∀ b : Bool, ∃ q r', ((flow_reader_wrong F r 8 (c : Int) i j).bind fun r22172 => flow_reader_collection_l0 F rec a0 a1 a2 a3 depth m r22172.2 (c : Int) j kind endk b) = some ((c : Int), q, r') ∧ next ≤ q ∧ q ≤ r.end_ ∧ Rd n r' q ∧ To r r' c (2 * (q - next)) (4 * (q - next) + 1) := by
   intro j z1 z2 b
   obtain ⟨r1, y1, y2, y3, _⟩ := wrong_rd F hF h (by omega) (by omega) (by omega) hs (code := 8) (frm := i) (to := j) (by omega) z1 z2 p2
   rw [y1]
   simp only [Option.bind_some]
   exact go j r1 b z1 z2 y2 (y3.le (by omega) (by omega))
  have endit : ∃ q r', ((flow_reader_tell F r 9 a3 (w64 (a3 + 1))).bind fun r22088 => (arena_Grow F r22088.t_ (c : Int) next).bind fun r22106 => (some ((c : Int), next, (⟨r22088.l_, r22088.end_, r22106, r22088.d_⟩ : flow_reader)) : Option (Int × Int × flow_reader))) = some ((c : Int), q, r') ∧ next ≤ q ∧ q ≤ r.end_ ∧ Rd n r' q ∧ To r r' c (2 * (q - next)) (4 * (q - next) + 1) := by
   have hw : w64 (a3 + 1) = a3 + 1 := w1 (by omega) (by omega)
   obtain ⟨x, t1, t2⟩ := tell_ex F r h.ri 9 a3 (a3 + 1) h3 (by omega) (by omega) (by omega)
   rw [hw, t1]
   simp only [Option.bind_some]
   obtain ⟨t', g1, g2, g3⟩ := grow_rd F hF (r := ⟨r.l_, r.end_, r.t_, r.d_ ++ [x]⟩) ⟨h.ri.of rfl rfl, h.nl, h.g, h.b, by show errs r.t_.Nodes = told (r.d_ ++ [x]); rw [told_snoc, t2, if_pos rfl]; exact h.er⟩ (by show r.t_.Nodes.length ≤ 2400; omega) hs (to := next) hn2 (Int.le_refl _)
   rw [g1]
   refine ⟨next, _, rfl, Int.le_refl _, hn2, g2, ?_⟩
   have := g3 c
   exact ⟨this.l, this.e, by have := this.sz; simp only at this ⊢; omega, this.ge, by have := this.dl; simp only [List.length_append, List.length_singleton] at this ⊢; omega, this.sp⟩
  have last : kd r i ≠ 0 → cn (kd r i) = true → ¬ (kd r i = 20 ∨ kd r i = 21) → ¬ (kd r i = 10 ∨ kd r i = 11) → kd r i ≠ 7 → ∃ q r', (((if there = true then
           (flow_reader_stray F r i).bind fun r22224 =>
           (flow_reader_wrong F r 8 (c : Int) i r22224).bind fun r22235 =>
           some (.inl (r22235.2, r22224, there))
          else
           if (0 : Int) ≤ colon then
            (flow_reader_pair F rec r (c : Int) i colon (depth - 1)).bind fun r22260 =>
            some (.inl (r22260.2, r22260.1, true))
           else
            (flow_reader_one F rec r (c : Int) kind i (depth - 1)).bind fun r22278 =>
            some (.inl (r22278.2.2, r22278.1, r22278.2.1))) : Option (Sum (flow_reader × Int × Bool) (Int × Int × flow_reader))).bind fun o => match o with
   | .inl (x22395, x22403, x22404) => flow_reader_collection_l0 F rec a0 a1 a2 a3 depth m x22395 (c : Int) x22403 kind endk x22404
   | .inr y => some y) = some ((c : Int), q, r') ∧ next ≤ q ∧ q ≤ r.end_ ∧ Rd n r' q ∧ To r r' c (2 * (q - next)) (4 * (q - next) + 1) := by
   intro z1 z2 z3 z4 z5
   have hin := kd_in z1
   cases there with
   | true =>
    simp only [if_true]
    obtain ⟨j, y1, y2, y3⟩ := stray_ex F hF r h.ri i z1 z2 z3 z5 z4
    rw [y1]
    simp only [Option.bind_some]
    obtain ⟨r1, x1, x2, x3, _⟩ := wrong_rd F hF h (by omega) (by omega) (by omega) hs (code := 8) (frm := i) (to := j) (by omega) y2 y3 p2
    rw [x1]
    simp only [Option.bind_some]
    exact go j r1 true y2 y3 x2 (x3.le (by omega) (by omega))
   | false =>
    simp only [Bool.false_eq_true, if_false]
    by_cases hc : 0 ≤ colon
    ·rw [if_pos hc]
     rcases k2 with k2 | ⟨k2, k3⟩
     ·omega
     obtain ⟨nx, r1, y1, y2, y3, y4, y5⟩ := pair_ex F hF rec (depth - 1) hrec h (by omega) p2 k2 k3 hs (by omega) (by omega)
     rw [y1]
     simp only [Option.bind_some]
     exact go nx r1 true (by omega) y3 y4 y5
    ·rw [if_neg hc]
     obtain ⟨nx, b, r1, y1, y2, y3, y4, y5⟩ := one_ex F hF rec (depth - 1) hrec h (by omega) (kind := kind) p2 hin.2 hs (by omega) (by omega)
     rw [y1]
     simp only [Option.bind_some]
     exact go nx r1 b y2 y3 y4 y5
  by_cases c1 : kd r i = endk
  ·have hin := kd_in (r := r) (i := i) (by omega)
   rw [if_pos c1]
   obtain ⟨t', g1, g2, g3⟩ := grow_rd F hF h (by omega) hs (to := i + 1) (by omega) (by omega)
   rw [g1]
   simp only [Option.bind_some]
   exact ⟨i + 1, _, rfl, by omega, by omega, g2, (g3 c).le (by omega) (by omega)⟩
  rw [if_neg c1]
  by_cases c2 : kd r i = 0
  ·rw [if_pos c2]
   obtain ⟨q, r', e1, e2⟩ := endit
   refine ⟨q, r', ?_, e2⟩
   rw [← e1]
   simp only [Option.bind_assoc, Option.bind_some]
  rw [if_neg c2]
  have hcn := p4 c2
  have hin := kd_in c2
  by_cases c3 : kd r i = 20 ∨ kd r i = 21
  ·rw [if_pos c3]
   obtain ⟨q, r', e1, e2⟩ := endit
   refine ⟨q, r', ?_, e2⟩
   rw [← e1]
   simp only [Option.bind_assoc, Option.bind_some]
  rw [if_neg c3]
  by_cases c4 : kd r i = 10 ∨ kd r i = 11
  ·rw [if_pos c4]
   simp only [Option.bind_assoc, Option.bind_some]
   exact gowrong (i + 1) (by omega) (by omega) there
  rw [if_neg c4]
  by_cases c5 : kd r i = 7
  ·simp only [if_pos c5]
   cases there with
   | true =>
    simp only [if_true, Option.bind_some]
    exact go (i + 1) r false (by omega) (by omega) ⟨h.ri, h.nl, h.g, h.b.mono (by omega), h.er⟩ ((To.refl r c).le (by omega) (by omega))
   | false =>
    simp only [Bool.false_eq_true, if_false, Option.bind_assoc, Option.bind_some]
    exact gowrong (i + 1) (by omega) (by omega) false
  ·simp only [if_neg c5]
   exact last c2 hcn c3 c4 c5
theorem collection_ex (F : Nat) (hF : 2500 ≤ F) (rec : Rec) (depth : Int) (hd0 : 0 < depth ∧ depth ≤ 1000) (hrec : VS rec (depth - 1)) {n : Int} {r : flow_reader} {p : Int} (h : Rd n r p) (hp : 0 ≤ p) {frm i : Int} (hpf : p ≤ frm) (hfi : frm ≤ i) (hi : i < r.end_) {up : Nat} (hs : Sp r.t_.Nodes up) (hN : (r.t_.Nodes.length : Int) ≤ 2 * p + 2) (hd : (r.d_.length : Int) ≤ 4 * p) :
  ∃ node q r', flow_reader_collection F rec r (up : Int) frm i depth = some (node, q, r') ∧ 0 ≤ node ∧ i < q ∧ q ≤ r.end_ ∧ Rd n r' q ∧ To r r' up (2 * (q - p) - 1) (4 * (q - p)) := by
 have he1 := h.ri.e1
 have hnn := h.ri.n
 have hul := hs.lt h.g
 have hw : w64 (i + 1) = i + 1 := w1 (by omega) (by omega)
 have main : ∀ kind endk : Int, (1 ≤ kind ∧ kind < 11) → (endk = 10 ∨ endk = 11) → ∃ node q r', ((flow_reader_add F r (up : Int) kind frm (w64 (i + 1))).bind fun r20984 =>
  (flow_reader_collection_l0 F rec r (up : Int) frm i depth F r20984.2 r20984.1 (w64 (i + 1)) kind endk false).bind fun o => match o with
   | y => some y) = some (node, q, r') ∧ 0 ≤ node ∧ i < q ∧ q ≤ r.end_ ∧ Rd n r' q ∧ To r r' up (2 * (q - p) - 1) (4 * (q - p)) := by
  intro kind endk hk he
  obtain ⟨r1, a1, a2, a3, a4, a5, a6, _, _⟩ := add_rd F hF h hp (by omega) hs (kind := kind) (frm := frm) (to := i + 1) hk (by omega) (by omega) hpf
  have he2 : r1.end_ = r.end_ := a3.e
  obtain ⟨q, r', l1, l2, l3, l4, l5⟩ := loop_ex F hF rec depth hd0 hrec (n := n) r (up : Int) frm i kind endk he r.t_.Nodes.length (by omega) (r1.end_ - (i + 1)).toNat F r1 (i + 1) false (Nat.le_refl _) (by omega) a2 (by omega) (by omega) a4 (by omega) (by rw [a5]; omega)
  rw [hw, a1]
  simp only [Option.bind_some, l1]
  exact ⟨_, q, r', rfl, by omega, by omega, by omega, l4, (a3.trans l5 (by omega)).le (by omega) (by omega)⟩
 unfold flow_reader_collection
 rw [kind_eq F r h.ri]
 simp only [Option.bind_some]
 by_cases c : kd r i = 9
 ·rw [if_pos c]; exact main 10 11 (by omega) (.inr rfl)
 ·rw [if_neg c]; exact main 9 10 (by omega) (.inl rfl)
theorem value_b_ex (F : Nat) (hF : 2500 ≤ F) (rec : Rec) (depth : Int) (hd1 : depth ≤ 1000) (hrec : 0 < depth → VS rec (depth - 1)) : VS (flow_reader_value_b F rec) depth := by
 intro n r up at_ h hs h0 hat hN hd
 have he1 := h.ri.e1
 have hnn := h.ri.n
 have hul := hs.lt h.g
 obtain ⟨i0, b1, b2, b3⟩ := blanks_ex F hF r h.ri at_ h0 (by omega)
 have key : ∀ (d m : Nat) (i last : Int), i0 ≤ i → i ≤ 1600 → (r.end_ - i).toNat ≤ d → d < m → (last = -1 ∨ (i0 ≤ last ∧ last < r.end_)) → ∃ i' last', flow_reader_value_l0 F rec r (up : Int) at_ depth m i i0 last = some (i', i0, last') ∧ i0 ≤ i' ∧ i' ≤ 1600 ∧ (last' = -1 ∨ (i0 ≤ last' ∧ last' < r.end_)) := by
  intro d
  induction d with
  | zero =>
   intro m i last hi hi2 hdd hm hl
   obtain ⟨m, rfl⟩ : ∃ k, m = k + 1 := ⟨m - 1, by omega⟩
   have : kd r i = 0 := by unfold kd; rw [if_pos (by omega)]
   rw [flow_reader_value_l0, kind_eq F r h.ri]
   simp only [Option.bind_some, prop_eq, decide_eq_true_eq]
   rw [if_neg (by omega)]
   exact ⟨i, last, rfl, hi, hi2, hl⟩
  | succ d ih =>
   intro m i last hi hi2 hdd hm hl
   obtain ⟨m, rfl⟩ : ∃ k, m = k + 1 := ⟨m - 1, by omega⟩
   rw [flow_reader_value_l0, kind_eq F r h.ri]
   simp only [Option.bind_some, prop_eq, decide_eq_true_eq]
   by_cases c : kd r i = 12 ∨ kd r i = 14
   ·have hin := kd_in (r := r) (i := i) (by omega)
    rw [if_pos c, w1 (by omega) (by omega)]
    obtain ⟨j, q1, q2, q3⟩ := blanks_ex F hF r h.ri (i + 1) (by omega) (by omega)
    rw [q1]
    simp only [Option.bind_some]
    exact ih m j i (by omega) (by omega) (by omega) (by omega) (.inr ⟨hi, hin.2⟩)
   ·rw [if_neg c]; exact ⟨i, last, rfl, hi, hi2, hl⟩
 obtain ⟨i, last, k1, k2, k3, k4⟩ := key (r.end_ - i0).toNat F i0 (-1) (Int.le_refl _) (by omega) (Nat.le_refl _) (by omega) (.inl rfl)
 unfold flow_reader_value_b
 rw [b1]
 simp only [Option.bind_some, k1, kind_eq F r h.ri, opens_eq, decide_eq_true_eq]
 have hw : ∀ z : Int, 0 ≤ z → z ≤ 1700 → w64 (z + 1) = z + 1 := fun z z1 z2 => w1 z1 (by omega)
 have put : ∀ (kind to : Int), (1 ≤ kind ∧ kind < 11) → i0 < to → to ≤ r.end_ → ∃ node next r', ((flow_reader_add F r (up : Int) kind i0 to).bind fun r22642 => some (r22642.1, to, r22642.2)) = some (node, next, r') ∧ ((node = -1 ∧ next = at_ ∧ r' = r) ∨ (0 ≤ node ∧ at_ < next ∧ next ≤ r.end_ ∧ Rd n r' next ∧ To r r' up (2 * (next - at_) - 1) (4 * (next - at_)))) := by
  intro kind to z1 z2 z3
  obtain ⟨r1, a1, a2, a3, _⟩ := add_rd F hF h h0 (by omega) hs (kind := kind) (frm := i0) (to := to) z1 (by omega) z3 b2
  rw [a1]
  exact ⟨_, to, r1, rfl, .inr ⟨by omega, by omega, z3, a2, a3.le (by omega) (by omega)⟩⟩
 have rest : ¬ (kd r i = 15 ∨ kd r i = 16 ∨ kd r i = 17) → ∃ node next r', (if kd r i = (13 : Int) then
     (flow_reader_add F r (up : Int) 8 i0 (w64 (i + 1))).bind fun r22833 =>
     some (r22833.1, w64 (i + 1), r22833.2)
    else
     if kd r i = (18 : Int) then
      (flow_reader_texts F r i).bind fun r23145 =>
      (flow_reader_add F r (up : Int) 7 i0 r23145).bind fun r23156 =>
      some (r23156.1, r23145, r23156.2)
     else
      ((if kd r i = 8 ∨ kd r i = 9 then
        if depth ≤ (0 : Int) then
         some true
        else
         some false
       else
        some false : Option Bool)).bind fun o => match o with
       | x23307 => if x23307 = true then
        (flow_reader_closed F r i).bind fun r23388 =>
        (flow_reader_wrong F r 10 (up : Int) i0 r23388).bind fun r23399 =>
        some (r23399.1, r23388, r23399.2)
       else
        if kd r i = 8 ∨ kd r i = 9 then
         (flow_reader_collection F rec r (up : Int) i0 i depth).bind fun r23469 =>
         some (r23469.1, r23469.2.1, r23469.2.2)
        else
         if (0 : Int) ≤ last then
          (flow_reader_add F r (up : Int) 7 i0 (w64 (last + 1))).bind fun r23530 =>
          some (r23530.1, w64 (last + 1), r23530.2)
         else
          some ((-1), at_, r)) = some (node, next, r') ∧ ((node = -1 ∧ next = at_ ∧ r' = r) ∨ (0 ≤ node ∧ at_ < next ∧ next ≤ r.end_ ∧ Rd n r' next ∧ To r r' up (2 * (next - at_) - 1) (4 * (next - at_)))) := by
  intro _
  by_cases c1 : kd r i = 13
  ·have hin := kd_in (r := r) (i := i) (by omega)
   rw [if_pos c1, hw i (by omega) (by omega)]
   exact put 8 (i + 1) (by omega) (by omega) (by omega)
  rw [if_neg c1]
  by_cases c2 : kd r i = 18
  ·have hin := kd_in (r := r) (i := i) (by omega)
   rw [if_pos c2]
   obtain ⟨j, t1, t2, t3⟩ := texts_ex F hF r h.ri i (by omega) hin.2
   rw [t1]
   simp only [Option.bind_some]
   exact put 7 j (by omega) (by omega) t3
  rw [if_neg c2]
  by_cases c3 : kd r i = 8 ∨ kd r i = 9
  ·have hin := kd_in (r := r) (i := i) (by omega)
   by_cases c4 : depth ≤ 0
   ·rw [if_pos c3, if_pos c4]
    simp only [Option.bind_some, if_true]
    obtain ⟨j, t1, t2, t3⟩ := closed_ex F hF r h.ri i c3
    rw [t1]
    simp only [Option.bind_some]
    obtain ⟨r1, x1, x2, x3, _⟩ := wrong_rd F hF h h0 (by omega) (by omega) hs (code := 10) (frm := i0) (to := j) (by omega) (by omega) t3 b2
    rw [x1]
    exact ⟨_, _, _, rfl, .inr ⟨by omega, by omega, t3, x2, x3.le (by omega) (by omega)⟩⟩
   ·rw [if_pos c3, if_neg c4]
    simp only [Option.bind_some, Bool.false_eq_true, if_false, if_pos c3]
    obtain ⟨node, q, r1, y1, y2, y3, y4, y5, y6⟩ := collection_ex F hF rec depth (by omega) (hrec (by omega)) h h0 b2 k2 hin.2 hs hN hd
    rw [y1]
    exact ⟨node, q, r1, rfl, .inr ⟨y2, by omega, y4, y5, y6⟩⟩
  ·simp only [if_neg c3, Option.bind_some, Bool.false_eq_true, if_false]
   by_cases c5 : 0 ≤ last
   ·rw [if_pos c5]
    rcases k4 with k4 | ⟨k4, k5⟩
    ·omega
    rw [hw last c5 (by omega)]
    exact put 7 (last + 1) (by omega) (by omega) (by omega)
   ·rw [if_neg c5]
    exact ⟨_, _, _, rfl, .inl ⟨rfl, rfl, rfl⟩⟩
 have first : kd r i = 15 ∨ kd r i = 16 ∨ kd r i = 17 → ∃ node next r', ((flow_reader_add F r (up : Int) 7 i0 (w64 (i + 1))).bind fun r22642 => some (r22642.1, w64 (i + 1), r22642.2)) = some (node, next, r') ∧ ((node = -1 ∧ next = at_ ∧ r' = r) ∨ (0 ≤ node ∧ at_ < next ∧ next ≤ r.end_ ∧ Rd n r' next ∧ To r r' up (2 * (next - at_) - 1) (4 * (next - at_)))) := by
  intro q
  have hin := kd_in (r := r) (i := i) (by omega)
  rw [hw i (by omega) (by omega)]
  exact put 7 (i + 1) (by omega) (by omega) (by omega)
 by_cases c1 : kd r i = 15
 ·simp only [if_pos c1, Option.bind_some, if_true]; exact first (.inl c1)
 by_cases c2 : kd r i = 16
 ·simp only [if_neg c1, if_pos c2, Option.bind_some, if_true]; exact first (.inr (.inl c2))
 by_cases c3 : kd r i = 17
 ·simp only [if_neg c1, if_neg c2, if_pos c3, Option.bind_some, if_true]; exact first (.inr (.inr c3))
 simp only [if_neg c1, if_neg c2, if_neg c3, Option.bind_some, Bool.false_eq_true, if_false]
 exact rest (by omega)
theorem value_r_ex (F : Nat) (hF : 2500 ≤ F) : ∀ (k : Nat) (depth : Int), depth ≤ k → k ≤ 1000 → VS (flow_reader_value_r F (k + 1)) depth := by
 intro k
 induction k with
 | zero => intro depth h _; exact value_b_ex F hF _ depth (by omega) (fun q => by omega)
 | succ k ih => intro depth h hk; exact value_b_ex F hF _ depth (by omega) (fun q => ih (depth - 1) (by omega) (by omega))
theorem value_r_more (F : Nat) (hF : 2500 ≤ F) : ∀ (k : Nat) (depth : Int), depth ≤ 20 → 21 ≤ k → k ≤ 100000 → VS (flow_reader_value_r F k) depth := by
 have gen : ∀ (j : Nat) (k : Nat) (depth : Int), depth ≤ j → j ≤ 1000 → j + 1 ≤ k → VS (flow_reader_value_r F k) depth := by
  intro j
  induction j with
  | zero =>
   intro k depth h1 h2 h3
   obtain ⟨k, rfl⟩ : ∃ m, k = m + 1 := ⟨k - 1, by omega⟩
   exact value_b_ex F hF _ depth (by omega) (fun q => by omega)
  | succ j ih =>
   intro k depth h1 h2 h3
   obtain ⟨k, rfl⟩ : ∃ m, k = m + 1 := ⟨k - 1, by omega⟩
   exact value_b_ex F hF _ depth (by omega) (fun q => ih k (depth - 1) (by omega) (by omega) (by omega))
 intro k depth h1 h2 _
 exact gen 20 k depth h1 (by omega) (by omega)
end Go.Proofs.Ytahcngeimlkcgaa.M
