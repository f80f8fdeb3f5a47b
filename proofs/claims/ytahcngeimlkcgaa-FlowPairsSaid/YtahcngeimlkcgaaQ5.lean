/- Brackets, read exactly: the loop's steps, a text's value. -/
import Derived.Test.YtahcngeimlkcgaaQ4
import Derived.Test.YtahcngeimlkcgaaMV0
namespace Go.Proofs.Ytahcngeimlkcgaa.M
open Go Am Sy
set_option linter.unusedVariables false
set_option linter.unusedSimpArgs false
set_option maxRecDepth 100000
section
variable {F : Nat} {K : List Int} {c : Nat} {r : flow_reader} {p : Nat} {S : List (Int × Bool)} {q : Nat}
theorem lp_end (hF : 2500 ≤ F) (rec : Rec) (a0 : flow_reader) (a1 a2 a3 depth : Int) (m : Nat) (h : St K c r p S q) (hS : S.length ≤ 2300) {i : Nat} (hpast : flow_reader_past F r (p : Int) = some (i : Int)) (hp : p ≤ i) (hi : i < K.length) {kind endk : Int} (he : endk = 10 ∨ endk = 11) (hk : kx K i = endk) (there : Bool) :
  ∃ r', flow_reader_collection_l0 F rec a0 a1 a2 a3 depth (m + 1) r (c : Int) (p : Int) kind endk there = some ((c : Int), ((i + 1 : Nat) : Int), r') ∧ St K c r' (i + 1) S q := by
 have hn := h.rd.ri.n
 have hl : r.l_.length = K.length := by rw [← h.l, List.length_map]
 obtain ⟨t', g1, g2⟩ := st_grow hF h (by omega) (to := i + 1) (by omega) (by omega)
 refine ⟨_, ?_, g2⟩
 rw [flow_reader_collection_l0, hpast]
 simp only [Option.bind_some, kind_eq F r h.rd.ri, h.kd]
 rw [key_other hF h (by omega)]
 simp only [Option.bind_some]
 rw [if_pos hk, w1n (by omega), g1]
 rfl
theorem lp_comma (hF : 2500 ≤ F) (rec : Rec) (a0 : flow_reader) (a1 a2 a3 depth : Int) (m : Nat) (h : St K c r p S q) {i : Nat} (hpast : flow_reader_past F r (p : Int) = some (i : Int)) (hi : i < K.length) {kind endk : Int} (he : endk = 10 ∨ endk = 11) (hk : kx K i = 7) :
  flow_reader_collection_l0 F rec a0 a1 a2 a3 depth (m + 1) r (c : Int) (p : Int) kind endk true = flow_reader_collection_l0 F rec a0 a1 a2 a3 depth m r (c : Int) ((i + 1 : Nat) : Int) kind endk false := by
 have hn := h.rd.ri.n
 have hl : r.l_.length = K.length := by rw [← h.l, List.length_map]
 rw [flow_reader_collection_l0, hpast]
 simp only [Option.bind_some, kind_eq F r h.rd.ri, h.kd, mark_eq, ends_eq, decide_eq_true_eq]
 rw [key_other hF h (by omega)]
 simp only [Option.bind_some]
 rw [if_neg (by omega), if_neg (by omega), if_neg (by omega), if_neg (by omega), if_pos hk, w1n (by omega)]
 simp only [if_true, Option.bind_some]
theorem lp_bad (hF : 2500 ≤ F) (rec : Rec) (a0 : flow_reader) (a1 a2 a3 depth : Int) (m : Nat) (h : St K c r p S q) (hS : S.length ≤ 2300) (hq : q ≤ 10000) {i : Nat} (hpast : flow_reader_past F r (p : Int) = some (i : Int)) (hp : p ≤ i) (hi : i < K.length) {kind endk : Int} (he : endk = 10 ∨ endk = 11) (hk : kx K i = 7) :
  ∃ r', flow_reader_collection_l0 F rec a0 a1 a2 a3 depth (m + 1) r (c : Int) (p : Int) kind endk false = flow_reader_collection_l0 F rec a0 a1 a2 a3 depth m r' (c : Int) ((i + 1 : Nat) : Int) kind endk false ∧ St K c r' (i + 1) (S ++ [(11, false)]) (q + 1) := by
 have hn := h.rd.ri.n
 have hl : r.l_.length = K.length := by rw [← h.l, List.length_map]
 obtain ⟨r1, b1, b2⟩ := st_wrong hF h (by omega) (by omega) (code := 8) (by omega) (frm := i) (to := i + 1) hp (by omega) (by omega)
 refine ⟨r1, ?_, b2⟩
 rw [flow_reader_collection_l0, hpast]
 simp only [Option.bind_some, kind_eq F r h.rd.ri, h.kd, mark_eq, ends_eq, decide_eq_true_eq]
 rw [key_other hF h (by omega)]
 simp only [Option.bind_some]
 rw [if_neg (by omega), if_neg (by omega), if_neg (by omega), if_neg (by omega), if_pos hk, w1n (by omega)]
 simp only [Bool.false_eq_true, if_false]
 rw [if_pos hk, b1]
 simp only [Option.bind_some]
theorem lp_item (hF : 2500 ≤ F) (rec : Rec) (a0 : flow_reader) (a1 a2 a3 depth : Int) (hd : 1 ≤ depth ∧ depth ≤ 1000) (m : Nat) (h : St K c r p S q) {i : Nat} (hpast : flow_reader_past F r (p : Int) = some (i : Int)) {kind endk : Int} (he : endk = 10 ∨ endk = 11) (hk : kx K i = 15 ∨ kx K i = 16 ∨ kx K i = 6) {colon : Int} (hc : flow_reader_key F r (i : Int) = some colon) :
  (∀ next r', 0 ≤ colon → flow_reader_pair F rec r (c : Int) (i : Int) colon (depth - 1) = some (next, r') → flow_reader_collection_l0 F rec a0 a1 a2 a3 depth (m + 1) r (c : Int) (p : Int) kind endk false = flow_reader_collection_l0 F rec a0 a1 a2 a3 depth m r' (c : Int) next kind endk true) ∧
  (∀ next b r', colon < 0 → flow_reader_one F rec r (c : Int) kind (i : Int) (depth - 1) = some (next, b, r') → flow_reader_collection_l0 F rec a0 a1 a2 a3 depth (m + 1) r (c : Int) (p : Int) kind endk false = flow_reader_collection_l0 F rec a0 a1 a2 a3 depth m r' (c : Int) next kind endk b) := by
 have hw : w64 (depth - 1) = depth - 1 := w64_eq (by omega) (by omega)
 constructor
 ·intro next r' h0 hp
  rw [flow_reader_collection_l0, hpast]
  simp only [Option.bind_some, kind_eq F r h.rd.ri, h.kd, mark_eq, ends_eq, decide_eq_true_eq, hc]
  rw [if_neg (by omega), if_neg (by omega), if_neg (by omega), if_neg (by omega), if_neg (by omega)]
  rw [if_neg (by omega)]
  simp only [Bool.false_eq_true, if_false]
  rw [if_pos h0, hw, hp]
  simp only [Option.bind_some]
 ·intro next b r' h0 hp
  rw [flow_reader_collection_l0, hpast]
  simp only [Option.bind_some, kind_eq F r h.rd.ri, h.kd, mark_eq, ends_eq, decide_eq_true_eq, hc]
  rw [if_neg (by omega), if_neg (by omega), if_neg (by omega), if_neg (by omega), if_neg (by omega)]
  rw [if_neg (by omega)]
  simp only [Bool.false_eq_true, if_false]
  rw [if_neg (by omega), hw, hp]
  simp only [Option.bind_some]
end
theorem value_run (s : Str) (hn : s.b.length ≤ 900) (K : List Int) (hK : 2 ≤ K.length ∧ K.length ≤ 900) {kind endk : Int} (hk : (kx K 0 = 8 ∧ kind = 9 ∧ endk = 10) ∨ (kx K 0 = 9 ∧ kind = 10 ∧ endk = 11)) (hs : Sc 3000 s.b 0 0 K) (P : List (Int × Bool) → Prop) (q : Nat) (hq : q ≤ 10000)
  (hloop : ∀ (rec : Rec) (a0 r : flow_reader), St K 1 r 1 [(1, false), (kind, false)] 0 → ∃ r' S, flow_reader_collection_l0 3000 (flow_reader_value_b 3000 rec) a0 0 0 0 9 3000 r ((1 : Nat) : Int) ((1 : Nat) : Int) kind endk false = some (((1 : Nat) : Int), (K.length : Int), r') ∧ St K 1 r' K.length S q ∧ P S) :
  ∃ N D, correctorlaw11_value 3000 s = some (⟨N⟩, 1, (K.length : Int), D, (K.length : Int)) ∧ P (sg N) ∧ D.length = q := by
 obtain ⟨T, t1, t2⟩ := tokens_sc 3000 s.b (by omega) (ks := K) (by omega) (by omega) hs
 have hT : T.length = K.length := by rw [← t2, List.length_map]
 unfold correctorlaw11_value
 rw [t1]
 simp only [Option.bind_some]
 rw [new_eq 3000 _ (by omega) (by omega)]
 simp only [Option.bind_some]
 unfold flow_Value
 have hg := grow_eq 3000 ⟨[⟨1, 0, T.length, -1, [], false⟩]⟩ (-1) 0 ⟨by simp, fun x hx => by simp at hx; subst hx; simp⟩ (by simp) (by simp)
 rw [if_neg (by omega)] at hg
 rw [hg]
 simp only [Option.bind_some]
 have hlen : (([⟨1, 0, (T.length : Int), -1, [], false⟩] : List api_Node).length : Int) = 1 := rfl
 rw [if_neg (by omega), if_neg (by omega), if_neg (by rw [hlen]; omega)]
 have himin : imin (T.length : Int) (T.length : Int) = T.length := by unfold imin; split <;> rfl
 rw [himin]
 have h0 : St K 0 (⟨T, (T.length : Int), ⟨[⟨1, 0, T.length, -1, [], false⟩]⟩, []⟩ : flow_reader) 0 [(1, false)] 0 := by
  refine ⟨⟨⟨by show (0 : Int) ≤ T.length; omega, Int.le_refl _, by show T.length ≤ 1000; omega⟩, by rw [hT], ?_, fun i x hx hi => ?_, rfl⟩, t2, by show (T.length : Int) = _; omega, Sp.root, rfl, rfl⟩
  ·rw [← hT]; exact G.new _ (by omega)
  ·have := lt_of hx
   simp at this; omega
 obtain ⟨r1, a1, a2, a3, _⟩ := st_add (F := 3000) (by omega) h0 (by simp) Sp.root (Nat.le_refl 0) (kind := kind) (by omega) (frm := 0) (to := 1) (Nat.le_refl 0) (by omega) (by omega)
 have h1 : St K 1 r1 1 [(1, false), (kind, false)] 0 := { a2 with s := a3 }
 obtain ⟨r', S, l1, l2, l3⟩ := hloop (flow_reader_value_r 3000 2998) (⟨T, (T.length : Int), ⟨[⟨1, 0, T.length, -1, [], false⟩]⟩, []⟩ : flow_reader) r1 h1
 have hv : flow_reader_value 3000 (⟨T, (T.length : Int), ⟨[⟨1, 0, T.length, -1, [], false⟩]⟩, []⟩ : flow_reader) 0 0 9 = some (1, (K.length : Int), r') := by
  show flow_reader_value_b 3000 (flow_reader_value_b 3000 (flow_reader_value_r 3000 2998)) _ 0 0 9 = _
  generalize flow_reader_value_b 3000 (flow_reader_value_r 3000 2998) = rec' at l1
  have hk0 : kx K 0 ≠ 3 ∧ kx K 0 ≠ 12 ∧ kx K 0 ≠ 14 := by omega
  have hb := blanks_here (F := 3000) (by omega) h0 (i := 0) hk0.1
  have hv0 := value_l0 (F := 3000) (by omega) rec' h0 0 9 (i := 0) hk0.2
  have hkd := h0.kd 0
  simp only [Int.natCast_zero] at hb hv0 hkd
  have hw : w64 ((0 : Int) + 1) = 1 := by decide
  have a1' : flow_reader_add 3000 (⟨T, (T.length : Int), ⟨[⟨1, 0, T.length, -1, [], false⟩]⟩, []⟩ : flow_reader) 0 kind 0 1 = some (1, r1) := a1
  unfold flow_reader_value_b
  rw [hb]
  simp only [Option.bind_some]
  rw [hv0]
  simp only [Option.bind_some, kind_eq 3000 _ h0.rd.ri, hkd, opens_eq, decide_eq_true_eq]
  rw [if_neg (by omega), if_neg (by omega), if_neg (by omega)]
  simp only [Option.bind_some, Bool.false_eq_true, if_false]
  rw [if_neg (by omega), if_neg (by omega), if_pos (by omega)]
  rw [if_neg (by omega)]
  simp only [Option.bind_some, Bool.false_eq_true, if_false]
  rw [if_pos (by omega)]
  have hcol : flow_reader_collection 3000 rec' (⟨T, (T.length : Int), ⟨[⟨1, 0, T.length, -1, [], false⟩]⟩, []⟩ : flow_reader) 0 0 0 9 = some (1, (K.length : Int), r') := by
   unfold flow_reader_collection
   rw [kind_eq 3000 _ h0.rd.ri, hkd]
   simp only [Option.bind_some]
   rcases hk with ⟨k1, rfl, rfl⟩ | ⟨k1, rfl, rfl⟩
   ·rw [if_neg (by omega)]
    simp only [Option.bind_some]
    rw [hw, a1']
    simp only [Option.bind_some]
    have l1' : flow_reader_collection_l0 3000 rec' (⟨T, (T.length : Int), ⟨[⟨1, 0, T.length, -1, [], false⟩]⟩, []⟩ : flow_reader) 0 0 0 9 3000 r1 1 1 9 10 false = some (1, (K.length : Int), r') := l1
    rw [l1']
    rfl
   ·rw [if_pos (by omega)]
    simp only [Option.bind_some]
    rw [hw, a1']
    simp only [Option.bind_some]
    have l1' : flow_reader_collection_l0 3000 rec' (⟨T, (T.length : Int), ⟨[⟨1, 0, T.length, -1, [], false⟩]⟩, []⟩ : flow_reader) 0 0 0 9 3000 r1 1 1 10 11 false = some (1, (K.length : Int), r') := l1
    rw [l1']
    rfl
  rw [hcol]
  rfl
 rw [hv]
 simp only [Option.bind_some]
 have hcl : slices_Clone_api_Diag 3000 r'.d_ = some r'.d_ := by
  unfold slices_Clone_api_Diag
  rw [if_pos (by have := l2.d; simp; omega)]; rfl
 rw [hcl, hT]
 exact ⟨_, _, rfl, by rw [l2.g]; exact l3, l2.d⟩
end Go.Proofs.Ytahcngeimlkcgaa.M
