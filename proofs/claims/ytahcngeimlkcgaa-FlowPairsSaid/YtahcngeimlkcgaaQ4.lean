/- Brackets, read exactly: values, pairs, steps. -/
import Derived.Test.YtahcngeimlkcgaaQ3
namespace Go.Proofs.Ytahcngeimlkcgaa.M
open Go Am Sy
set_option linter.unusedVariables false
set_option linter.unusedSimpArgs false
set_option maxRecDepth 100000
section
variable {F : Nat} {K : List Int} {c : Nat} {r : flow_reader} {p : Nat} {S : List (Int × Bool)} {q : Nat}
theorem value_l0 (hF : 2500 ≤ F) (rec : Rec) (h : St K c r p S q) (up : Int) (depth : Int) {i : Nat} (hk : kx K i ≠ 12 ∧ kx K i ≠ 14) : flow_reader_value_l0 F rec r up (i : Int) depth F (i : Int) (i : Int) (-1) = some ((i : Int), (i : Int), -1) := by
 have : ∀ n, 1 ≤ n → flow_reader_value_l0 F rec r up (i : Int) depth n (i : Int) (i : Int) (-1) = some ((i : Int), (i : Int), -1) := by
  intro n hn
  obtain ⟨n, rfl⟩ : ∃ m, n = m + 1 := ⟨n - 1, by omega⟩
  rw [flow_reader_value_l0, kind_eq F r h.rd.ri, h.kd]
  simp only [Option.bind_some, prop_eq, decide_eq_true_eq]
  rw [if_neg (by omega)]
 exact this F (by omega)
theorem val_plain (hF : 2500 ≤ F) (rec : Rec) (depth : Int) (h : St K c r p S q) (hS : S.length ≤ 2400) {up : Nat} (hs : Sp r.t_.Nodes up) (hcu : c ≤ up) {i : Nat} (hp : p ≤ i) (hi : i < K.length) (hk : kx K i = 15) :
  ∃ r', flow_reader_value_b F rec r (up : Int) (i : Int) depth = some ((S.length : Int), ((i + 1 : Nat) : Int), r') ∧ St K c r' (i + 1) (S ++ [(7, false)]) q := by
 have hn := h.rd.ri.n
 have hl : r.l_.length = K.length := by rw [← h.l, List.length_map]
 obtain ⟨r1, a1, a2, _⟩ := st_add hF h hS hs hcu (kind := 7) (by omega) (frm := i) (to := i + 1) hp (by omega) (by omega)
 refine ⟨r1, ?_, a2⟩
 unfold flow_reader_value_b
 rw [blanks_here hF h (by omega)]
 simp only [Option.bind_some]
 rw [value_l0 hF rec h (up : Int) depth (by omega)]
 simp only [Option.bind_some, kind_eq F r h.rd.ri, h.kd, hk]
 rw [if_pos trivial, w1n (by omega)]
 simp only [Option.bind_some, if_true]
 rw [a1]
 rfl
theorem val_none (hF : 2500 ≤ F) (rec : Rec) (depth : Int) (h : St K c r p S q) (up : Int) {i : Nat} (hk : kx K i = 7 ∨ kx K i = 10 ∨ kx K i = 11) :
  flow_reader_value_b F rec r up (i : Int) depth = some (-1, (i : Int), r) := by
 unfold flow_reader_value_b
 rw [blanks_here hF h (by omega)]
 simp only [Option.bind_some]
 rw [value_l0 hF rec h up depth (by omega)]
 simp only [Option.bind_some, kind_eq F r h.rd.ri, h.kd, opens_eq, decide_eq_true_eq]
 rw [if_neg (by omega), if_neg (by omega), if_neg (by omega)]
 simp only [Option.bind_some, Bool.false_eq_true, if_false]
 rw [if_neg (by omega), if_neg (by omega), if_neg (by omega)]
 simp only [Option.bind_some, Bool.false_eq_true, if_false]
 rw [if_neg (by omega), if_neg (by omega)]
theorem has_one (F : Nat) (hF : 10 ≤ F) (x : api_Token) (hx : x.Kind ≠ 13) : slices_ContainsFunc_api_Token F [x] = some false := by
 have : ∀ n, 2 ≤ n → slices_IndexFunc_api_Token_l0 F [x] n 0 = some (.inl ()) := by
  intro n hn
  obtain ⟨n, rfl⟩ : ∃ m, n = m + 2 := ⟨n - 2, by omega⟩
  have hw : w64 ((0 : Int) + 1) = 1 := by decide
  rw [slices_IndexFunc_api_Token_l0, if_pos (by simp), if_pos (by simp)]
  show (some x).bind _ = _
  simp only [Option.bind_some]
  unfold flow_reader_scalar_1
  rw [if_neg hx]
  simp only [Option.bind_some, Bool.false_eq_true, if_false]
  rw [hw, slices_IndexFunc_api_Token_l0, if_neg (by simp)]
 unfold slices_ContainsFunc_api_Token slices_IndexFunc_api_Token
 rw [this F (by omega)]
 rfl
theorem scalar_one (hF : 2500 ≤ F) {u : Nat} {i : Nat} (hu : u = S.length) (h : St K c r (i + 2) (S ++ [(6, false)]) q) (hS : S.length ≤ 2300) (hs : Sp r.t_.Nodes u) (hcu : c ≤ u) (hi : i + 2 ≤ K.length) (hk : kx K i = 15 ∨ kx K i = 16) {z : api_Node} (hz : r.t_.Nodes[u]? = some z) (hzf : z.From = i) (hzk : z.Kids = []) :
  ∃ r', flow_reader_scalar F r (u : Int) (i : Int) ((i + 1 : Nat) : Int) = some r' ∧ St K c r' (i + 2) (S ++ [(6, true), (7, false)]) q ∧ Sp r'.t_.Nodes u := by
 have hn := h.rd.ri.n
 have hnl := h.rd.nl
 have hl : r.l_.length = K.length := by rw [← h.l, List.length_map]
 have hlen := h.len
 rw [List.length_append, List.length_singleton] at hlen
 have hg := List.getElem?_eq_getElem (l := r.l_) (i := i) (by omega)
 have hkd := h.tok hg
 have hcut : (r.l_.take ((i + 1 : Nat) : Int).toNat).drop (i : Int).toNat = [r.l_[i]] := by
  rw [Int.toNat_natCast, Int.toNat_natCast, List.drop_take, List.drop_eq_getElem_cons (by omega), show i + 1 - i = 1 by omega]
  rfl
 unfold flow_reader_scalar
 rw [over_here hF h (by omega) (by rcases hk with hk | hk <;> rw [hk] <;> rfl)]
 simp only [Option.bind_some]
 rw [if_neg (by omega), if_pos (by omega), hcut, has_one F (by omega) _ (by omega)]
 simp only [Option.bind_some, Bool.false_eq_true, if_false]
 have hend : ∀ e, endOf r.t_.Nodes u = some e → e ≤ (i : Int) := fun e he => by rw [endOf_fresh hz hzk e he, hzf]; exact Int.le_refl _
 obtain ⟨N', q1, q2⟩ := add_ex F hF r h.rd.g (by omega) (hs.lt h.rd.g) hs (kind := 7) (frm := (i : Int)) (to := ((i + 1 : Nat) : Int)) ⟨by omega, by omega⟩ (by omega) (by omega) hend
 have s1 := add_sg F hF r h.rd.g (by omega) (hs.lt h.rd.g) (kind := 7) (frm := (i : Int)) (to := ((i + 1 : Nat) : Int)) ⟨by omega, by omega⟩ (by omega) (by omega) hend q1
 have hul : u < N'.length := by have := hs.lt h.rd.g; rw [q2.len]; omega
 rw [q1]
 simp only [Option.bind_some]
 rw [if_pos (by show 0 ≤ (u : Int) ∧ (u : Int) < (N'.length : Int); omega), Int.toNat_natCast, List.getElem?_eq_getElem hul]
 simp only [Option.bind_some]
 have h1 : St K c (⟨r.l_, r.end_, ⟨N'⟩, r.d_⟩ : flow_reader) (i + 2) (S ++ [(6, false)] ++ [(7, false)]) q := by
  refine ⟨⟨h.rd.ri.of rfl rfl, hnl, q2.g, q2.bel _ h.rd.b (by omega), ?_⟩, h.l, h.e, q2.old c hcu h.s, ?_, h.d⟩
  ·show errs N' = told r.d_
   rw [q2.err, if_neg (by omega)]; exact h.rd.er
  ·show sg N' = _
   have : sg N' = sg r.t_.Nodes ++ [(7, false)] := s1
   rw [this, h.g]
 have hkind : N'[u].Kind = 6 := st_kind h1 (i := u) (List.getElem?_eq_getElem hul) (k := 6) (b := false) (by rw [hu]; simp)
 obtain ⟨m1, m2⟩ := st_mark h1 (i := u) (x := N'[u]) (List.getElem?_eq_getElem hul) true
 refine ⟨_, rfl, ?_, m2 u (q2.old u (Nat.le_refl _) hs)⟩
 have e : (S ++ [(6, false)] ++ [(7, false)]).set u (N'[u].Kind, true) = S ++ [(6, true), (7, false)] := by
  rw [hkind, hu]; simp
 rw [e] at m1
 exact m1
theorem pair_own (hF : 2500 ≤ F) (rec : Rec) (depth : Int) (h : St K c r p S q) (hS : S.length ≤ 2300) {i : Nat} (hp : p ≤ i) (hi : i + 3 < K.length) (hk : kx K i = 15 ∨ kx K i = 16) (h1 : kx K (i + 1) = 6) (h2 : kx K (i + 2) = 3) :
  (kx K (i + 3) = 15 → ∃ r', flow_reader_pair F (flow_reader_value_b F rec) r (c : Int) (i : Int) ((i + 1 : Nat) : Int) depth = some (((i + 4 : Nat) : Int), r') ∧ St K c r' (i + 4) (S ++ [(6, true), (7, false), (7, false)]) q) ∧
  ((kx K (i + 3) = 7 ∨ kx K (i + 3) = 10 ∨ kx K (i + 3) = 11) → ∃ r', flow_reader_pair F (flow_reader_value_b F rec) r (c : Int) (i : Int) ((i + 1 : Nat) : Int) depth = some (((i + 2 : Nat) : Int), r') ∧ St K c r' (i + 2) (S ++ [(6, true), (7, false)]) q) := by
 have hn := h.rd.ri.n
 have hl : r.l_.length = K.length := by rw [← h.l, List.length_map]
 have hlen := h.len
 have hcu : c ≤ S.length := by have := h.s.lt h.rd.g; omega
 obtain ⟨r1, a1, a2, a3, a4, ⟨z, hz, hzf, hzk⟩⟩ := st_add hF h (by omega) h.s (Nat.le_refl c) (kind := 6) (by omega) (frm := i) (to := i + 2) hp (by omega) (by omega)
 obtain ⟨r2, b1, b2, b3⟩ := scalar_one hF (u := S.length) (i := i) rfl a2 hS a3 hcu (by omega) hk hz hzf hzk
 have hw : w64 (((i + 1 : Nat) : Int) + 1) = ((i + 2 : Nat) : Int) := w1n (by omega)
 have hpast : (kx K (i + 3) = 0 ∨ cn (kx K (i + 3)) = true) → flow_reader_past F r2 ((i + 2 : Nat) : Int) = some ((i + 3 : Nat) : Int) := past_skip hF b2 (by omega) h2
 unfold flow_reader_pair
 rw [hw, a1]
 simp only [Option.bind_some, b1]
 constructor
 ·intro h3
  rw [hpast (.inr (by rw [h3]; rfl))]
  simp only [Option.bind_some]
  obtain ⟨r3, d1, d2⟩ := val_plain hF rec depth b2 (by rw [List.length_append]; simp; omega) b3 hcu (i := i + 3) (by omega) hi h3
  rw [d1]
  simp only [Option.bind_some]
  rw [if_pos (by omega)]
  refine ⟨r3, rfl, ?_⟩
  rw [List.append_assoc] at d2
  exact d2
 ·intro h3
  rw [hpast (.inr (by rcases h3 with h3 | h3 | h3 <;> rw [h3] <;> rfl))]
  simp only [Option.bind_some]
  rw [val_none hF rec depth b2 _ h3]
  simp only [Option.bind_some]
  rw [if_neg (by omega)]
  exact ⟨r2, rfl, b2⟩
theorem pair_bare (hF : 2500 ≤ F) (rec : Rec) (depth : Int) (h : St K c r p S q) (hS : S.length ≤ 2300) {i : Nat} (hp : p ≤ i) (hi : i + 2 < K.length) (h1 : kx K i = 6) (h2 : kx K (i + 1) = 3) (h3 : kx K (i + 2) = 15) :
  ∃ r', flow_reader_pair F (flow_reader_value_b F rec) r (c : Int) (i : Int) (i : Int) depth = some (((i + 3 : Nat) : Int), r') ∧ St K c r' (i + 3) (S ++ [(6, false), (7, false)]) q := by
 have hn := h.rd.ri.n
 have hl : r.l_.length = K.length := by rw [← h.l, List.length_map]
 have hlen := h.len
 have hcu : c ≤ S.length := by have := h.s.lt h.rd.g; omega
 obtain ⟨r1, a1, a2, a3, a4, _⟩ := st_add hF h (by omega) h.s (Nat.le_refl c) (kind := 6) (by omega) (frm := i) (to := i + 1) hp (by omega) (by omega)
 have hsc : flow_reader_scalar F r1 (S.length : Int) (i : Int) (i : Int) = some r1 := by
  unfold flow_reader_scalar
  rw [over_same hF i]
  simp only [Option.bind_some]
  rw [if_pos trivial]
 unfold flow_reader_pair
 rw [w1n (by omega), a1]
 simp only [Option.bind_some, hsc]
 rw [past_skip hF a2 (by omega) h2 (.inr (by rw [h3]; rfl))]
 simp only [Option.bind_some]
 obtain ⟨r3, d1, d2⟩ := val_plain hF rec depth a2 (by rw [List.length_append]; simp; omega) a3 hcu (i := i + 2) (by omega) hi h3
 rw [d1]
 simp only [Option.bind_some]
 rw [if_pos (by omega)]
 refine ⟨r3, rfl, ?_⟩
 rw [List.append_assoc] at d2
 exact d2
theorem one_seq (hF : 2500 ≤ F) (rec : Rec) (depth : Int) (h : St K c r p S q) (hS : S.length ≤ 2300) {i : Nat} (hp : p ≤ i) (hi : i < K.length) (hk : kx K i = 15) :
  ∃ r', flow_reader_one F (flow_reader_value_b F rec) r (c : Int) 9 (i : Int) depth = some (((i + 1 : Nat) : Int), true, r') ∧ St K c r' (i + 1) (S ++ [(7, false)]) q := by
 obtain ⟨r3, d1, d2⟩ := val_plain hF rec depth h (by omega) h.s (Nat.le_refl c) hp hi hk
 unfold flow_reader_one
 rw [if_neg (by decide)]
 simp only [Option.bind_some]
 rw [d1]
 simp only [Option.bind_some]
 rw [if_pos (by omega)]
 exact ⟨r3, rfl, d2⟩
theorem one_map (hF : 2500 ≤ F) (rec : Rec) (depth : Int) (h : St K c r p S q) (hS : S.length ≤ 2300) {i : Nat} (hp : p ≤ i) (hi : i < K.length) (hk : kx K i = 15) :
  ∃ r', flow_reader_one F (flow_reader_value_b F rec) r (c : Int) 10 (i : Int) depth = some (((i + 1 : Nat) : Int), true, r') ∧ St K c r' (i + 1) (S ++ [(6, true), (7, false)]) q := by
 have hlen := h.len
 have hcu : c ≤ S.length := by have := h.s.lt h.rd.g; omega
 obtain ⟨r1, a1, a2, a3, a4, _⟩ := st_add hF h (by omega) h.s (Nat.le_refl c) (kind := 6) (by omega) (frm := i) (to := i) hp (Nat.le_refl _) (by omega)
 have hl1 := a2.len
 rw [List.length_append, List.length_singleton] at hl1
 have hlt : S.length < r1.t_.Nodes.length := by omega
 have hkind : r1.t_.Nodes[S.length].Kind = 6 := st_kind a2 (i := S.length) (List.getElem?_eq_getElem hlt) (k := 6) (b := false) (by simp)
 obtain ⟨m1, m2⟩ := st_mark a2 (i := S.length) (x := r1.t_.Nodes[S.length]) (List.getElem?_eq_getElem hlt) true
 have e : (S ++ [(6, false)]).set S.length (r1.t_.Nodes[S.length].Kind, true) = S ++ [(6, true)] := by rw [hkind]; simp
 rw [e] at m1
 obtain ⟨r3, d1, d2⟩ := val_plain hF rec depth m1 (by rw [List.length_append]; simp; omega) (m2 _ a3) hcu (Nat.le_refl i) hi hk
 unfold flow_reader_one
 rw [if_pos rfl]
 simp only [a1, Option.bind_some]
 rw [if_pos (by omega), Int.toNat_natCast, List.getElem?_eq_getElem hlt]
 simp only [Option.bind_some]
 rw [d1]
 simp only [Option.bind_some]
 rw [if_pos (by omega)]
 refine ⟨r3, rfl, ?_⟩
 rw [List.append_assoc] at d2
 exact d2
end
end Go.Proofs.Ytahcngeimlkcgaa.M
