/- FlowPairs, plainly. -/
import Derived.Test.YtahcngeimlkcgaaQ5
import Derived.Test.YtahcngeimlkcgaaMP0
namespace Go.Proofs.Ytahcngeimlkcgaa.M
open Go Am Sy
set_option linter.unusedVariables false
set_option linter.unusedSimpArgs false
set_option maxRecDepth 100000
def it : Fin 4 → List UInt8
 | 0 => [97] | 1 => [98, 58, 32, 99] | 2 => [58, 32, 100] | 3 => [39, 101, 39, 58, 32]
def ik : Fin 4 → List Int
 | 0 => [15] | 1 => [15, 6, 3, 15] | 2 => [6, 3, 15] | 3 => [16, 6, 3]
def nm : Fin 4 → List (Int × Bool)
 | 0 => [(6, true), (7, false)] | 1 => [(6, true), (7, false), (7, false)] | 2 => [(6, false), (7, false)] | 3 => [(6, true), (7, false)]
def ns : Fin 4 → List (Int × Bool)
 | 0 => [(7, false)] | 1 => [(6, true), (7, false), (7, false)] | 2 => [(6, false), (7, false)] | 3 => [(6, true), (7, false)]
def tt : List (Fin 4) → List UInt8
 | [] => [] | k :: l => 44 :: 32 :: (it k ++ tt l)
def tk : List (Fin 4) → List Int
 | [] => [] | k :: l => 7 :: 3 :: (ik k ++ tk l)
def bt : List (Fin 4) → List UInt8
 | [] => [] | k :: l => it k ++ tt l
def bk : List (Fin 4) → List Int
 | [] => [] | k :: l => ik k ++ tk l
theorem it_len (k : Fin 4) : 1 ≤ (it k).length ∧ (it k).length ≤ 5 := by revert k; decide
theorem ik_len (k : Fin 4) : 1 ≤ (ik k).length ∧ (ik k).length ≤ 4 := by revert k; decide
theorem tt_len : ∀ l : List (Fin 4), (tt l).length ≤ 7 * l.length := by
 intro l
 induction l with
 | nil => exact Nat.le_refl _
 | cons k l ih => have := it_len k; simp only [tt, List.length_cons, List.length_append]; omega
theorem tk_len : ∀ l : List (Fin 4), (tk l).length ≤ 6 * l.length := by
 intro l
 induction l with
 | nil => exact Nat.le_refl _
 | cons k l ih => have := ik_len k; simp only [tk, List.length_cons, List.length_append]; omega
theorem bt_len (l : List (Fin 4)) : (bt l).length ≤ 7 * l.length := by
 cases l with
 | nil => exact Nat.le_refl _
 | cons k l => have := it_len k; have := tt_len l; simp only [bt, List.length_cons, List.length_append]; omega
theorem bk_len (l : List (Fin 4)) : (bk l).length ≤ 6 * l.length := by
 cases l with
 | nil => exact Nat.le_refl _
 | cons k l => have := ik_len k; have := tk_len l; simp only [bk, List.length_cons, List.length_append]; omega
def En (e : UInt8) (ek : Int) : Prop := (e = 93 ∧ ek = 10) ∨ (e = 125 ∧ ek = 11)
theorem tt_stop {e : UInt8} {ek : Int} (he : En e ek) (l : List (Fin 4)) : ∃ d Z, tt l ++ [e] = d :: Z ∧ (d = 44 ∨ d = 93 ∨ d = 125) := by
 cases l with
 | nil => exact ⟨e, [], rfl, by rcases he with ⟨h, _⟩ | ⟨h, _⟩ <;> simp [h]⟩
 | cons k l => exact ⟨44, _, rfl, .inl rfl⟩
section
variable {B : List UInt8} {e : UInt8} {ek : Int}
theorem it_sc (hn : B.length ≤ 900) (he : En e ek) (l : List (Fin 4)) (k : Fin 4) {i : Nat} {ks : List Int} (hi : i ≠ 0) (hb : B.drop i = it k ++ (tt l ++ [e])) (h : ∀ j : Nat, j ≠ 0 → B.drop j = tt l ++ [e] → Sc 3000 B j 1 ks) : Sc 3000 B i 1 (ik k ++ ks) := by
 obtain ⟨d, Z, hz, hd⟩ := tt_stop he l
 have hstop : Stop 1 (tt l ++ [e]) := .inl ⟨d, Z, hz, by omega, hd⟩
 have hn2 : B.length ≤ 10000 := by omega
 have hF : B.length + 10 ≤ 3000 := by omega
 match k, hb with
 | 0, hb =>
  exact Sc.plain hF hn2 (c := 97) hb (by decide) hstop (h (i + 1) (by omega) (drop1 hb))
 | 1, hb =>
  have h1 := drop1 (c := 98) hb
  have h2 := drop1 (c := 58) h1
  have h3 := drop1 (c := 32) h2
  have h4 := drop1 (c := 99) h3
  exact Sc.plain hF hn2 (c := 98) hb (by decide) (.inr ⟨_, rfl⟩) (Sc.colon hF hn2 h1 (Sc.blank (by omega) hn2 (d := 99) (by omega) h2 (by decide) (Sc.plain hF hn2 (c := 99) h3 (by decide) hstop (h _ (by omega) h4))))
 | 2, hb =>
  have h2 := drop1 (c := 58) hb
  have h3 := drop1 (c := 32) h2
  have h4 := drop1 (c := 100) h3
  exact Sc.colon hF hn2 hb (Sc.blank (by omega) hn2 (d := 100) (by omega) h2 (by decide) (Sc.plain hF hn2 (c := 100) h3 (by decide) hstop (h _ (by omega) h4)))
 | 3, hb =>
  have h3 := drop1 (c := 39) (drop1 (c := 101) (drop1 (c := 39) hb))
  have h4 := drop1 (c := 58) h3
  have h5 := drop1 (c := 32) h4
  have hq : (d.toNat : Int) ≠ 32 ∧ (d.toNat : Int) ≠ 9 := by rcases hd with rfl | rfl | rfl <;> decide
  have h4' := h4
  simp only [hz] at h4'
  exact Sc.single hF hn2 hb (Sc.colon hF hn2 h3 (Sc.blank (by omega) hn2 (d := d) (Y := Z) (by omega) h4' hq (h _ (by omega) h5)))
theorem tt_sc (hn : B.length ≤ 900) (he : En e ek) : ∀ (l : List (Fin 4)) (i : Nat), i ≠ 0 → B.drop i = tt l ++ [e] → Sc 3000 B i 1 (tk l ++ [ek]) := by
 intro l
 induction l with
 | nil =>
  intro i hi hb
  refine Sc.close (by omega) (c := e) (Y := []) hb he (by omega) ?_
  rw [drop_nil hb]
  exact Sc.nil _ _ _
 | cons k l ih =>
  intro i hi hb
  have h1 : B.drop i = 44 :: 32 :: (it k ++ (tt l ++ [e])) := by rw [hb]; simp only [tt, List.cons_append, List.append_assoc]
  have h2 := drop1 h1
  have h3 := drop1 h2
  have hk : ∃ d Z, it k ++ (tt l ++ [e]) = d :: Z ∧ (d.toNat : Int) ≠ 32 ∧ (d.toNat : Int) ≠ 9 := by
   match k with
   | 0 => exact ⟨97, _, rfl, by decide⟩
   | 1 => exact ⟨98, _, rfl, by decide⟩
   | 2 => exact ⟨58, _, rfl, by decide⟩
   | 3 => exact ⟨39, _, rfl, by decide⟩
  obtain ⟨d, Z, hz, hq⟩ := hk
  have h2' := h2
  rw [hz] at h2'
  have := it_sc hn he l k (ks := tk l ++ [ek]) (by omega) h3 (fun j hj hb => ih j hj hb)
  rw [← List.append_assoc] at this
  exact Sc.comma (by omega) h1 (by omega) (Sc.blank (by omega) (by omega) (d := d) (Y := Z) (by omega) h2' hq this)
theorem bt_sc (hn : B.length ≤ 900) (he : En e ek) (l : List (Fin 4)) {i : Nat} (hi : i ≠ 0) (hb : B.drop i = bt l ++ [e]) : Sc 3000 B i 1 (bk l ++ [ek]) := by
 cases l with
 | nil => exact tt_sc hn he [] i hi hb
 | cons k l =>
  have h1 : B.drop i = it k ++ (tt l ++ [e]) := by rw [hb]; simp only [bt, List.append_assoc]
  have := it_sc hn he l k (ks := tk l ++ [ek]) hi h1 (fun j hj hb => tt_sc hn he l j hj hb)
  rw [← List.append_assoc] at this
  exact this
end
def fl (nd : Fin 4 → List (Int × Bool)) : List (Fin 4) → List (Int × Bool)
 | [] => [] | k :: l => nd k ++ fl nd l
def Br (kind ek : Int) (nd : Fin 4 → List (Int × Bool)) : Prop := (kind = 9 ∧ ek = 10 ∧ nd = ns) ∨ (kind = 10 ∧ ek = 11 ∧ nd = nm)
section
variable {K : List Int} {kind ek : Int} {nd : Fin 4 → List (Int × Bool)}
theorem tk_head (hb : Br kind ek nd) (l : List (Fin 4)) : ∃ z Z, tk l ++ [ek] = z :: Z ∧ (z = 7 ∨ z = 10 ∨ z = 11) := by
 cases l with
 | nil => exact ⟨ek, [], rfl, by rcases hb with ⟨_, h, _⟩ | ⟨_, h, _⟩ <;> simp [h]⟩
 | cons k l => exact ⟨7, _, rfl, .inl rfl⟩
theorem past_to {r : flow_reader} {p : Nat} {S : List (Int × Bool)} {q : Nat} (hK : K.length ≤ 900) (h : St K 1 r p S q) {z : Int} {Z : List Int} (hz : cn z = true) (hd : K.drop p = z :: Z ∨ K.drop p = 3 :: z :: Z) : ∃ i : Nat, flow_reader_past 3000 r (p : Int) = some (i : Int) ∧ p ≤ i ∧ K.drop i = z :: Z := by
 rcases hd with hd | hd
 ·exact ⟨p, past_here (by omega) h (.inr (by rw [kx_at hd]; exact hz)), Nat.le_refl _, hd⟩
 ·have := lt_of_get (drop0 hd)
  exact ⟨p + 1, past_skip (by omega) h (by omega) (kx_at hd) (.inr (by rw [kx_at (drop1 hd)]; exact hz)), by omega, drop1 hd⟩
theorem pairs_item (rec : Rec) (a0 : flow_reader) (hK : K.length ≤ 900) (hb : Br kind ek nd) (m : Nat) (k : Fin 4) (l : List (Fin 4)) {r : flow_reader} {p : Nat} {S : List (Int × Bool)} (h : St K 1 r p S 0) (hS : S.length ≤ 200)
  (hd : K.drop p = ik k ++ (tk l ++ [ek]) ∨ K.drop p = 3 :: (ik k ++ (tk l ++ [ek]))) :
  ∃ r' p', flow_reader_collection_l0 3000 (flow_reader_value_b 3000 rec) a0 0 0 0 9 (m + 1) r ((1 : Nat) : Int) (p : Int) kind ek false = flow_reader_collection_l0 3000 (flow_reader_value_b 3000 rec) a0 0 0 0 9 m r' ((1 : Nat) : Int) ((p' : Nat) : Int) kind ek true ∧ St K 1 r' p' (S ++ nd k) 0 ∧ (K.drop p' = tk l ++ [ek] ∨ K.drop p' = 3 :: (tk l ++ [ek])) := by
 obtain ⟨z, Z, hz, hzk⟩ := tk_head hb l
 have he : ek = 10 ∨ ek = 11 := by rcases hb with ⟨_, h, _⟩ | ⟨_, h, _⟩ <;> omega
 have hcz : cn z = true := by rcases hzk with rfl | rfl | rfl <;> rfl
 rw [hz] at hd ⊢
 match k, hd with
 | 0, hd =>
  obtain ⟨i, hp, hpi, hi⟩ := past_to hK h (z := 15) rfl hd
  have hk := kx_at hi
  have hi1 := drop1 hi
  have hlt := lt_of_get (drop0 hi)
  have hkey : flow_reader_key 3000 r (i : Int) = some (-1) := by
   rw [key_name (by omega) h (by omega) (.inl hk) (.inr (by rw [kx_at hi1]; exact hcz)), if_neg (by rw [kx_at hi1]; omega)]
  have st := (lp_item (F := 3000) (by omega) (flow_reader_value_b 3000 rec) a0 0 0 0 9 (by omega) m h hp (kind := kind) (endk := ek) he (.inl hk) hkey).2
  rcases hb with ⟨rfl, rfl, rfl⟩ | ⟨rfl, rfl, rfl⟩
  ·obtain ⟨r1, o1, o2⟩ := one_seq (F := 3000) (by omega) rec (9 - 1) h (by omega) hpi hlt hk
   exact ⟨r1, i + 1, st _ _ _ (by omega) o1, o2, .inl hi1⟩
  ·obtain ⟨r1, o1, o2⟩ := one_map (F := 3000) (by omega) rec (9 - 1) h (by omega) hpi hlt hk
   exact ⟨r1, i + 1, st _ _ _ (by omega) o1, o2, .inl hi1⟩
 | 1, hd =>
  have hd' : K.drop p = 15 :: 6 :: 3 :: 15 :: z :: Z ∨ K.drop p = 3 :: 15 :: 6 :: 3 :: 15 :: z :: Z := hd
  obtain ⟨i, hp, hpi, hi⟩ := past_to hK h (z := 15) rfl hd'
  have h1 := drop1 hi
  have h2 := drop1 h1
  have h3 := drop1 h2
  have h4 := drop1 h3
  have hlt := lt_of_get (drop0 h3)
  have hkey : flow_reader_key 3000 r (i : Int) = some ((i + 1 : Nat) : Int) := by
   rw [key_name (by omega) h (by omega) (.inl (kx_at hi)) (.inr (by rw [kx_at h1]; rfl)), if_pos (kx_at h1)]
  have st := (lp_item (F := 3000) (by omega) (flow_reader_value_b 3000 rec) a0 0 0 0 9 (by omega) m h hp (kind := kind) (endk := ek) he (.inl (kx_at hi)) hkey).1
  obtain ⟨r1, o1, o2⟩ := (pair_own (F := 3000) (by omega) rec (9 - 1) h (by omega) hpi hlt (.inl (kx_at hi)) (kx_at h1) (kx_at h2)).1 (kx_at h3)
  have e : nd 1 = [(6, true), (7, false), (7, false)] := by rcases hb with ⟨_, _, rfl⟩ | ⟨_, _, rfl⟩ <;> rfl
  rw [e]
  exact ⟨r1, i + 4, st _ _ (by omega) o1, o2, .inl h4⟩
 | 2, hd =>
  have hd' : K.drop p = 6 :: 3 :: 15 :: z :: Z ∨ K.drop p = 3 :: 6 :: 3 :: 15 :: z :: Z := hd
  obtain ⟨i, hp, hpi, hi⟩ := past_to hK h (z := 6) rfl hd'
  have h1 := drop1 hi
  have h2 := drop1 h1
  have h3 := drop1 h2
  have hlt := lt_of_get (drop0 h2)
  have hkey : flow_reader_key 3000 r (i : Int) = some (i : Int) := by
   rw [key_other (by omega) h (.inl (kx_at hi)), if_pos (kx_at hi)]
  have st := (lp_item (F := 3000) (by omega) (flow_reader_value_b 3000 rec) a0 0 0 0 9 (by omega) m h hp (kind := kind) (endk := ek) he (.inr (.inr (kx_at hi))) hkey).1
  obtain ⟨r1, o1, o2⟩ := pair_bare (F := 3000) (by omega) rec (9 - 1) h (by omega) hpi hlt (kx_at hi) (kx_at h1) (kx_at h2)
  have e : nd 2 = [(6, false), (7, false)] := by rcases hb with ⟨_, _, rfl⟩ | ⟨_, _, rfl⟩ <;> rfl
  rw [e]
  exact ⟨r1, i + 3, st _ _ (by omega) o1, o2, .inl h3⟩
 | 3, hd =>
  have hd' : K.drop p = 16 :: 6 :: 3 :: z :: Z ∨ K.drop p = 3 :: 16 :: 6 :: 3 :: z :: Z := hd
  obtain ⟨i, hp, hpi, hi⟩ := past_to hK h (z := 16) rfl hd'
  have h1 := drop1 hi
  have h2 := drop1 h1
  have h3 := drop1 h2
  have hlt := lt_of_get (drop0 h3)
  have hkey : flow_reader_key 3000 r (i : Int) = some ((i + 1 : Nat) : Int) := by
   rw [key_name (by omega) h (by omega) (.inr (kx_at hi)) (.inr (by rw [kx_at h1]; rfl)), if_pos (kx_at h1)]
  have st := (lp_item (F := 3000) (by omega) (flow_reader_value_b 3000 rec) a0 0 0 0 9 (by omega) m h hp (kind := kind) (endk := ek) he (.inr (.inl (kx_at hi))) hkey).1
  have hz3 : kx K (i + 3) = z := kx_at h3
  obtain ⟨r1, o1, o2⟩ := (pair_own (F := 3000) (by omega) rec (9 - 1) h (by omega) hpi hlt (.inr (kx_at hi)) (kx_at h1) (kx_at h2)).2 (by rw [hz3]; exact hzk)
  have e : nd 3 = [(6, true), (7, false)] := by rcases hb with ⟨_, _, rfl⟩ | ⟨_, _, rfl⟩ <;> rfl
  rw [e]
  exact ⟨r1, i + 2, st _ _ (by omega) o1, o2, .inr h2⟩
theorem nd_len (hb : Br kind ek nd) (k : Fin 4) : (nd k).length ≤ 3 := by
 rcases hb with ⟨_, _, rfl⟩ | ⟨_, _, rfl⟩ <;> (revert k; decide)
theorem pairs_tail (rec : Rec) (a0 : flow_reader) (hK : K.length ≤ 900) (hb : Br kind ek nd) : ∀ (l : List (Fin 4)) (m : Nat) (r : flow_reader) (p : Nat) (S : List (Int × Bool)), 2 * l.length < m → St K 1 r p S 0 → S.length + 3 * l.length ≤ 200 → (K.drop p = tk l ++ [ek] ∨ K.drop p = 3 :: (tk l ++ [ek])) →
  ∃ r', flow_reader_collection_l0 3000 (flow_reader_value_b 3000 rec) a0 0 0 0 9 m r ((1 : Nat) : Int) (p : Int) kind ek true = some (((1 : Nat) : Int), (K.length : Int), r') ∧ St K 1 r' K.length (S ++ fl nd l) 0 := by
 have he : ek = 10 ∨ ek = 11 := by rcases hb with ⟨_, h, _⟩ | ⟨_, h, _⟩ <;> omega
 intro l
 induction l with
 | nil =>
  intro m r p S hm h hS hd
  obtain ⟨m, rfl⟩ : ∃ n, m = n + 1 := ⟨m - 1, by omega⟩
  have hd' : K.drop p = [ek] ∨ K.drop p = 3 :: [ek] := hd
  obtain ⟨i, hp, hpi, hi⟩ := past_to hK h (z := ek) (Z := []) (by rcases he with rfl | rfl <;> rfl) hd'
  have hlen := drop_nil hi
  obtain ⟨r', l1, l2⟩ := lp_end (F := 3000) (by omega) (flow_reader_value_b 3000 rec) a0 0 0 0 9 m h (by omega) hp hpi (by omega) (kind := kind) (endk := ek) he (kx_at hi) true
  rw [hlen] at l1 l2
  exact ⟨r', l1, by simp only [fl, List.append_nil]; exact l2⟩
 | cons k l ih =>
  intro m r p S hm h hS hd
  simp only [List.length_cons] at hm hS
  obtain ⟨m, rfl⟩ : ∃ n, m = n + 2 := ⟨m - 2, by omega⟩
  have ha : tk (k :: l) ++ [ek] = 7 :: 3 :: (ik k ++ (tk l ++ [ek])) := by simp only [tk, List.cons_append, List.append_assoc]
  rw [ha] at hd
  obtain ⟨i, hp, hpi, hi⟩ := past_to hK h (z := 7) rfl hd
  have hlt := lt_of_get (drop0 hi)
  have s1 := lp_comma (F := 3000) (by omega) (flow_reader_value_b 3000 rec) a0 0 0 0 9 (m + 1) h hp hlt (kind := kind) (endk := ek) he (kx_at hi)
  obtain ⟨r1, p1, s2, h1, hd1⟩ := pairs_item rec a0 hK hb m k l (h.more (p' := i + 1) (by omega)) (by omega) (.inr (drop1 hi))
  have hn := nd_len hb k
  obtain ⟨r', s3, h2⟩ := ih m r1 p1 (S ++ nd k) (by omega) h1 (by rw [List.length_append]; omega) hd1
  refine ⟨r', s1.trans (s2.trans s3), ?_⟩
  simp only [fl]
  rw [← List.append_assoc]
  exact h2
theorem pairs_loop (rec : Rec) (a0 : flow_reader) (hK : K.length ≤ 900) (hb : Br kind ek nd) (l : List (Fin 4)) (hl : l.length ≤ 12) {r : flow_reader} {S : List (Int × Bool)} (h : St K 1 r 1 S 0) (hS : S.length ≤ 2) (hd : K.drop 1 = bk l ++ [ek]) :
  ∃ r', flow_reader_collection_l0 3000 (flow_reader_value_b 3000 rec) a0 0 0 0 9 3000 r ((1 : Nat) : Int) ((1 : Nat) : Int) kind ek false = some (((1 : Nat) : Int), (K.length : Int), r') ∧ St K 1 r' K.length (S ++ fl nd l) 0 := by
 have he : ek = 10 ∨ ek = 11 := by rcases hb with ⟨_, h, _⟩ | ⟨_, h, _⟩ <;> omega
 cases l with
 | nil =>
  have hd' : K.drop 1 = [ek] ∨ K.drop 1 = 3 :: [ek] := .inl hd
  obtain ⟨i, hp, hpi, hi⟩ := past_to hK h (z := ek) (Z := []) (by rcases he with rfl | rfl <;> rfl) hd'
  have hlen := drop_nil hi
  obtain ⟨r', l1, l2⟩ := lp_end (F := 3000) (by omega) (flow_reader_value_b 3000 rec) a0 0 0 0 9 2999 h (by omega) hp hpi (by omega) (kind := kind) (endk := ek) he (kx_at hi) false
  rw [hlen] at l1 l2
  exact ⟨r', l1, by simp only [fl, List.append_nil]; exact l2⟩
 | cons k l =>
  simp only [List.length_cons] at hl
  have ha : bk (k :: l) ++ [ek] = ik k ++ (tk l ++ [ek]) := by simp only [bk, List.append_assoc]
  rw [ha] at hd
  obtain ⟨r1, p1, s2, h1, hd1⟩ := pairs_item rec a0 hK hb 2999 k l h (by omega) (.inl hd)
  have hn := nd_len hb k
  obtain ⟨r', s3, h2⟩ := pairs_tail rec a0 hK hb l 2999 r1 p1 (S ++ nd k) (by omega) h1 (by rw [List.length_append]; omega) hd1
  refine ⟨r', s2.trans s3, ?_⟩
  simp only [fl]
  rw [← List.append_assoc]
  exact h2
end
theorem pairs_value (l : List (Fin 4)) (hl : l.length ≤ 12) {o e : UInt8} {kind ek ok : Int} {nd : Fin 4 → List (Int × Bool)} (hb : (o = 91 ∧ e = 93 ∧ ok = 8 ∧ kind = 9 ∧ ek = 10 ∧ nd = ns) ∨ (o = 123 ∧ e = 125 ∧ ok = 9 ∧ kind = 10 ∧ ek = 11 ∧ nd = nm)) :
  ∃ N D n, correctorlaw11_value 3000 (⟨o :: (bt l ++ [e])⟩ : Str) = some (⟨N⟩, 1, n, D, n) ∧ sg N = (1, false) :: (kind, false) :: fl nd l ∧ D.length = 0 := by
 have hbr : Br kind ek nd := by rcases hb with ⟨_, _, _, h1, h2, h3⟩ | ⟨_, _, _, h1, h2, h3⟩; exact .inl ⟨h1, h2, h3⟩; exact .inr ⟨h1, h2, h3⟩
 have hen : En e ek := by rcases hb with ⟨_, h1, _, _, h2, _⟩ | ⟨_, h1, _, _, h2, _⟩; exact .inl ⟨h1, h2⟩; exact .inr ⟨h1, h2⟩
 have h1 := bt_len l
 have h2 := bk_len l
 have hn : (o :: (bt l ++ [e])).length ≤ 900 := by rw [List.length_cons, List.length_append, List.length_singleton]; omega
 have hK : (ok :: (bk l ++ [ek])).length = (bk l).length + 2 := by rw [List.length_cons, List.length_append, List.length_singleton]
 have hsc : Sc 3000 (o :: (bt l ++ [e])) 0 0 (ok :: (bk l ++ [ek])) :=
  Sc.open (by omega) (c := o) (Y := bt l ++ [e]) rfl (by rcases hb with ⟨h1, _, h2, _⟩ | ⟨h1, _, h2, _⟩; exact .inl ⟨h1, h2⟩; exact .inr ⟨h1, h2⟩) (by omega) (bt_sc hn hen l (by omega) rfl)
 obtain ⟨N, D, v1, v2, v3⟩ := value_run (⟨o :: (bt l ++ [e])⟩ : Str) hn (ok :: (bk l ++ [ek])) (by omega) (kind := kind) (endk := ek) (by
  have hk0 : kx (ok :: (bk l ++ [ek])) 0 = ok := rfl
  rw [hk0]
  rcases hb with ⟨_, _, h1, h2, h3, _⟩ | ⟨_, _, h1, h2, h3, _⟩
  ·exact .inl ⟨h1, h2, h3⟩
  ·exact .inr ⟨h1, h2, h3⟩) hsc (fun S => S = (1, false) :: (kind, false) :: fl nd l) 0 (by omega) (fun rec a0 r hst => by
  obtain ⟨r', e1, e2⟩ := pairs_loop rec a0 (by omega) hbr l hl hst (by simp) rfl
  exact ⟨r', _, e1, e2, rfl⟩)
 exact ⟨N, D, _, v1, v2, v3⟩
def c6 (S : List (Int × Bool)) : Nat := S.countP fun x => x.1 == 6
def c6k (S : List (Int × Bool)) : Nat := S.countP fun x => x.1 == 6 && x.2
def pw (k : Fin 4) : Nat := if k = 0 then 0 else 1
def kw (k : Fin 4) : Nat := if k = 2 then 0 else 1
def np : List (Fin 4) → Nat
 | [] => 0 | k :: l => pw k + np l
def nk : List (Fin 4) → Nat
 | [] => 0 | k :: l => kw k + nk l
theorem fl_c6 (l : List (Fin 4)) : c6 (fl nm l) = l.length ∧ c6k (fl nm l) = nk l ∧ c6 (fl ns l) = np l ∧ (fl nm l).length ≤ 3 * l.length ∧ (fl ns l).length ≤ 3 * l.length ∧ np l ≤ l.length ∧ nk l ≤ l.length := by
 induction l with
 | nil => exact ⟨rfl, rfl, rfl, by simp [fl], by simp [fl], Nat.le_refl _, Nat.le_refl _⟩
 | cons k l ih =>
  obtain ⟨h1, h2, h3, h4, h5, h6, h7⟩ := ih
  have a1 : c6 (nm k) = 1 := by revert k; decide
  have a2 : c6k (nm k) = kw k := by revert k; decide
  have a3 : c6 (ns k) = pw k := by revert k; decide
  have a4 : (nm k).length ≤ 3 := by revert k; decide
  have a5 : (ns k).length ≤ 3 := by revert k; decide
  have a6 : pw k ≤ 1 := by revert k; decide
  have a7 : kw k ≤ 1 := by revert k; decide
  have b1 : c6 (nm k ++ fl nm l) = c6 (nm k) + c6 (fl nm l) := List.countP_append
  have b2 : c6k (nm k ++ fl nm l) = c6k (nm k) + c6k (fl nm l) := List.countP_append
  have b3 : c6 (ns k ++ fl ns l) = c6 (ns k) + c6 (fl ns l) := List.countP_append
  simp only [fl, np, nk, List.length_cons, List.length_append]
  exact ⟨by omega, by omega, by omega, by omega, by omega, by omega, by omega⟩
end Go.Proofs.Ytahcngeimlkcgaa.M
