/- FlowEnds, plainly. -/
import Derived.Test.YtahcngeimlkcgaaP11F
import Derived.Test.YtahcngeimlkcgaaP9W
namespace Go.Proofs.Ytahcngeimlkcgaa.M
open Go Am Sy
set_option linter.unusedVariables false
set_option linter.unusedSimpArgs false
set_option maxRecDepth 100000
def pieces : List Str := [(⟨[91]⟩ : Str), (⟨[93]⟩ : Str), (⟨[123]⟩ : Str), (⟨[125]⟩ : Str), (⟨[44, 32]⟩ : Str), (⟨[97]⟩ : Str), (⟨[98, 58, 32]⟩ : Str), (⟨[99]⟩ : Str), (⟨[39, 113, 39]⟩ : Str), (⟨[38, 110, 32]⟩ : Str), (⟨[42, 110]⟩ : Str), (⟨[33, 116, 32]⟩ : Str), (⟨[58]⟩ : Str), (⟨[32]⟩ : Str), (⟨[10, 32]⟩ : Str), (⟨[35, 32, 99, 10]⟩ : Str), (⟨[34, 122, 34]⟩ : Str), (⟨[49]⟩ : Str), (⟨[44]⟩ : Str), (⟨[45, 45, 45, 10]⟩ : Str), (⟨[10, 45, 45, 45, 10]⟩ : Str)]
theorem pieces_le : ∀ s ∈ pieces, s.b.length ≤ 5 := by decide
theorem flow_text (F : Nat) (hF : 100 ≤ F) (fs : List Int) (hl : fs.length ≤ 9223372036854775807) : ∃ b, correctorlaw11_Flow F fs = some b ∧ 1 ≤ b.length ∧ b.length ≤ 201 := by
 have key : ∀ (d n i : Nat) (s : Str), i + d = 40 → d < n → 1 ≤ s.b.length → s.b.length ≤ 1 + 5 * i → ∃ s', correctorlaw11_Flow_l0 F fs n pieces s (i : Int) = some s' ∧ 1 ≤ s'.b.length ∧ s'.b.length ≤ 201 := by
  intro d
  induction d with
  | zero =>
   intro n i s h1 h2 h3 h4
   obtain ⟨n, rfl⟩ : ∃ m, n = m + 1 := ⟨n - 1, by omega⟩
   rw [correctorlaw11_Flow_l0]
   split
   ·rw [if_neg (by omega)]; exact ⟨s, rfl, h3, by omega⟩
   ·exact ⟨s, rfl, h3, by omega⟩
  | succ d ih =>
   intro n i s h1 h2 h3 h4
   obtain ⟨n, rfl⟩ : ∃ m, n = m + 1 := ⟨n - 1, by omega⟩
   rw [correctorlaw11_Flow_l0]
   by_cases c1 : (i : Int) < (fs.length : Int)
   case neg => rw [if_neg c1]; exact ⟨s, rfl, h3, by omega⟩
   have hi : i < fs.length := by omega
   have hpl : (pieces.length : Int) = 21 := rfl
   have hr := wi_range fs[i] 21 (by decide)
   have hk : (wi fs[i] 21).toNat < pieces.length := by have : pieces.length = 21 := rfl; omega
   have hp := pieces_le _ (List.getElem_mem hk)
   rw [if_pos c1, if_pos (by omega), if_pos (by omega), Int.toNat_natCast, List.getElem?_eq_getElem hi]
   simp only [Option.bind_some, hpl]
   rw [within_eq F _ 21 (by decide) (by decide)]
   simp only [Option.bind_some]
   rw [if_pos hr, List.getElem?_eq_getElem hk]
   simp only [Option.bind_some]
   rw [if_pos (by omega)]
   have hw : w64 ((i : Int) + 1) = ((i + 1 : Nat) : Int) := by rw [w64_eq (by omega) (by omega)]; omega
   rw [hw]
   exact ih n (i + 1) _ (by omega) (by omega) (by show 1 ≤ (s.b ++ _).length; rw [List.length_append]; omega) (by show (s.b ++ _).length ≤ _; rw [List.length_append]; omega)
 obtain ⟨s, q1, q2, q3⟩ := key 40 F 0 ⟨[91]⟩ (by omega) (by omega) (by decide) (by decide)
 unfold correctorlaw11_Flow
 rw [show ((0 : Nat) : Int) = 0 from rfl] at q1
 refine ⟨s.b, ?_, q2, q3⟩
 show ((correctorlaw11_Flow_l0 F fs F pieces ⟨[91]⟩ 0).bind fun o => match o with | x121 => some x121.b) = _
 rw [q1]; rfl
theorem ends_l0 (F : Nat) (a0 : List Int) (a1 a2 : Int) (N : List api_Node) (D : List api_Diag) (hN : N.length ≤ 100000) : ∀ (d n i c : Nat), i + d = N.length → d < n → c ≤ i → correctorlaw11_FlowEnds_l0 F a0 a1 a2 n N D (c : Int) (i : Int) = some (D, ((c + errs (N.drop i) : Nat) : Int)) := by
 intro d
 induction d with
 | zero =>
  intro n i c h1 h2 h3
  obtain ⟨n, rfl⟩ : ∃ m, n = m + 1 := ⟨n - 1, by omega⟩
  rw [correctorlaw11_FlowEnds_l0, if_neg (by omega), List.drop_eq_nil_of_le (by omega)]
  rfl
 | succ d ih =>
  intro n i c h1 h2 h3
  obtain ⟨n, rfl⟩ : ∃ m, n = m + 1 := ⟨n - 1, by omega⟩
  have hi : i < N.length := by omega
  rw [correctorlaw11_FlowEnds_l0, if_pos (by omega), if_pos (by omega), Int.toNat_natCast, List.getElem?_eq_getElem hi, List.drop_eq_getElem_cons hi]
  simp only [Option.bind_some]
  have hw : w64 ((i : Int) + 1) = ((i + 1 : Nat) : Int) := by rw [w64_eq (by omega) (by omega)]; omega
  have hw2 : w64 ((c : Int) + 1) = ((c + 1 : Nat) : Int) := by rw [w64_eq (by omega) (by omega)]; omega
  have he : errs (N[i] :: N.drop (i + 1)) = (if N[i].Kind = 11 then 1 else 0) + errs (N.drop (i + 1)) := by
   unfold errs
   rw [List.map_cons, List.countP_cons]
   by_cases e : N[i].Kind = 11 <;> simp [e]; omega
  rw [he]
  by_cases e : N[i].Kind = 11
  ·rw [if_pos e, if_pos e, hw2]
   simp only [Option.bind_some]
   rw [hw, ih n (i + 1) (c + 1) (by omega) (by omega) (by omega)]
   congr 3; omega
  ·rw [if_neg e, if_neg e]
   simp only [Option.bind_some]
   rw [hw, ih n (i + 1) c (by omega) (by omega) (by omega), Nat.zero_add]
theorem ends_l1 (F : Nat) (a0 : List Int) (a1 a2 : Int) (D : List api_Diag) (e : Int) (hN : D.length ≤ 100000) : ∀ (d n i c : Nat), i + d = D.length → d < n → c ≤ i → correctorlaw11_FlowEnds_l1 F a0 a1 a2 n D e (c : Int) (i : Int) = some (e, ((c + told (D.drop i) : Nat) : Int)) := by
 intro d
 induction d with
 | zero =>
  intro n i c h1 h2 h3
  obtain ⟨n, rfl⟩ : ∃ m, n = m + 1 := ⟨n - 1, by omega⟩
  rw [correctorlaw11_FlowEnds_l1, if_neg (by omega), List.drop_eq_nil_of_le (by omega)]
  rfl
 | succ d ih =>
  intro n i c h1 h2 h3
  obtain ⟨n, rfl⟩ : ∃ m, n = m + 1 := ⟨n - 1, by omega⟩
  have hi : i < D.length := by omega
  rw [correctorlaw11_FlowEnds_l1, if_pos (by omega), if_pos (by omega), Int.toNat_natCast, List.getElem?_eq_getElem hi, List.drop_eq_getElem_cons hi]
  simp only [Option.bind_some]
  have hw : w64 ((i : Int) + 1) = ((i + 1 : Nat) : Int) := by rw [w64_eq (by omega) (by omega)]; omega
  have hw2 : w64 ((c : Int) + 1) = ((c + 1 : Nat) : Int) := by rw [w64_eq (by omega) (by omega)]; omega
  have he : told (D[i] :: D.drop (i + 1)) = (if D[i].Code = 9 then 0 else 1) + told (D.drop (i + 1)) := by
   unfold told
   rw [List.countP_cons]
   by_cases e : D[i].Code = 9 <;> simp [e]; omega
  rw [he]
  by_cases e : D[i].Code = 9
  ·rw [if_pos e, if_pos e]
   simp only [Option.bind_some]
   rw [hw, ih n (i + 1) c (by omega) (by omega) (by omega), Nat.zero_add]
  ·rw [if_neg e, if_neg e, hw2]
   simp only [Option.bind_some]
   rw [hw, ih n (i + 1) (c + 1) (by omega) (by omega) (by omega)]
   congr 3; omega
theorem value_ex (F : Nat) (hF : F = 3000) (b : List UInt8) (l : List api_Token) (hl : 1 ≤ l.length ∧ l.length ≤ 1000) (at_ depth : Int) (h0 : 0 ≤ at_) (h1 : at_ ≤ l.length) (hd : depth ≤ 20) :
  ∃ node next N D, flow_Value F b l ⟨[⟨1, 0, l.length, -1, [], false⟩]⟩ 0 at_ l.length depth = some (⟨N⟩, node, next, D) ∧ G N l.length ∧ N.length ≤ 2400 ∧ errs N = told D ∧ D.length ≤ 4 * l.length ∧ ((node = -1 ∧ next = at_ ∧ N.length = 1 ∧ D.length = 0) ∨ (0 ≤ node ∧ at_ < next ∧ next ≤ l.length)) := by
 unfold flow_Value
 have hg := grow_eq F ⟨[⟨1, 0, l.length, -1, [], false⟩]⟩ (-1) 0 ⟨by simp, fun x hx => by simp at hx; subst hx; simp⟩ (by simp; omega) (by simp)
 rw [if_neg (by omega)] at hg
 rw [hg]
 simp only [Option.bind_some]
 have hlen : (([⟨1, 0, (l.length : Int), -1, [], false⟩] : List api_Node).length : Int) = 1 := rfl
 rw [if_neg (by omega), if_neg (by omega), if_neg (by rw [hlen]; omega)]
 have himin : imin (l.length : Int) (l.length : Int) = l.length := by unfold imin; split <;> rfl
 rw [himin]
 have hvs := value_r_more F (by omega) F depth hd (by omega) (by omega)
 obtain ⟨node, next, r', q1, q2⟩ := hvs l.length ⟨l, l.length, ⟨[⟨1, 0, l.length, -1, [], false⟩]⟩, []⟩ 0 at_ ⟨⟨by show (0 : Int) ≤ l.length; omega, Int.le_refl _, hl.2⟩, rfl, G.new _ (by omega), fun i x hx hi => by
  have := lt_of hx
  simp at this; omega, rfl⟩ Sp.root h0 h1 (by show (1 : Int) ≤ _; omega) (by show (0 : Int) ≤ _; omega)
 have hq : flow_reader_value F ⟨l, l.length, ⟨[⟨1, 0, l.length, -1, [], false⟩]⟩, []⟩ 0 at_ depth = some (node, next, r') := q1
 rw [hq]
 simp only [Option.bind_some]
 have hcl : ∀ D : List api_Diag, D.length ≤ 10000 → slices_Clone_api_Diag F D = some D := fun D h => by
  unfold slices_Clone_api_Diag
  rw [if_pos (by simp; omega)]; rfl
 rcases q2 with ⟨rfl, rfl, rfl⟩ | ⟨e1, e2, e3, e4, e5⟩
 ·rw [hcl _ (by simp)]
  exact ⟨_, _, _, _, rfl, G.new _ (by omega), by simp, rfl, by simp, .inl ⟨rfl, rfl, rfl, rfl⟩⟩
 ·have hs := e5.sz
  have hdl := e5.dl
  have e3' : next ≤ (l.length : Int) := e3
  have hs' : (r'.t_.Nodes.length : Int) ≤ 1 + (2 * (next - at_) - 1) := hs
  have hd' : (r'.d_.length : Int) ≤ 0 + 4 * (next - at_) := hdl
  rw [hcl _ (by omega)]
  exact ⟨node, next, r'.t_.Nodes, r'.d_, rfl, e4.g, by omega, e4.er, by omega, .inr ⟨e1, e2, e3'⟩⟩
theorem ends_holds (F : Nat) (fs : List Int) (at_ depth : Int) (hF : F = 3000) (hl : fs.length ≤ 9223372036854775807) : correctorlaw11_FlowEnds F fs at_ depth = some true := by
 subst hF
 unfold correctorlaw11_FlowEnds
 rw [known_eq]
 simp only [Option.bind_some, if_true]
 obtain ⟨b, hb, b1, b2⟩ := flow_text 3000 (by omega) fs hl
 rw [hb]
 simp only [Option.bind_some]
 obtain ⟨l, t1, t2⟩ := tokens_wp 3000 b (by omega) (by omega)
 obtain ⟨t3, t4⟩ := t2.bounds
 have t5 : 1 ≤ l.length := by
  have := t4 (by omega)
  cases l with
  | nil => exact absurd rfl this
  | cons x l => simp
 rw [t1]
 simp only [Option.bind_some]
 have ra := wi_range at_ (l.length : Int) (by omega)
 have rd := wi_range depth 9 (by omega)
 rw [within_eq 3000 at_ _ (by omega) (by omega), new_eq 3000 _ (by omega) (by omega), within_eq 3000 depth 9 (by omega) (by omega)]
 simp only [Option.bind_some]
 obtain ⟨node, next, N, D, v1, v2, v3, v4, v5, v6⟩ := value_ex 3000 rfl b l ⟨t5, by omega⟩ (wi at_ (l.length : Int)) (wi depth 9) ra.1 (by omega) (by omega)
 rw [v1]
 simp only [Option.bind_some]
 rw [check_eq 3000 ⟨N⟩ l.length (v2.small (by omega)) (by show N.length < 3000; omega) (fun x hx => by have q : x.Kids.length ≤ lenSum N := lenSum_mem hx; have := v2.sum; omega)]
 have hch : checkB N l.length = true := v2.check
 simp only [Option.bind_some, hch, if_true]
 have l0 := ends_l0 3000 fs at_ depth N D (by omega) N.length 3000 0 0 (by omega) (by omega) (by omega)
 have l1 := ends_l1 3000 fs at_ depth D ((errs N : Nat) : Int) (by omega) D.length 3000 0 0 (by omega) (by have := v5; rcases v6 with ⟨_, _, _, q⟩ | q <;> omega) (by omega)
 rw [show ((0 : Nat) : Int) = 0 from rfl, List.drop_zero, Nat.zero_add] at l0 l1
 have fin : ((correctorlaw11_FlowEnds_l0 3000 fs at_ depth 3000 N D 0 0).bind fun o => match o with
    | (x384, x388) => (correctorlaw11_FlowEnds_l1 3000 fs at_ depth 3000 x384 x388 0 0).bind fun o => match o with
     | (x558, x559) => if x558 = x559 then
      some true
     else
      some false) = some true := by
  rw [l0]
  simp only [Option.bind_some]
  rw [l1]
  simp only [Option.bind_some]
  rw [if_pos (by rw [v4])]
 rcases v6 with ⟨rfl, rfl, n1, n2⟩ | ⟨e1, e2, e3⟩
 ·rw [if_pos (by omega), if_pos rfl, if_pos (by omega), if_pos (by omega), if_neg (by omega)]
  simp only [Option.bind_some]
  exact fin
 ·rw [if_neg (by omega), if_pos e1, if_neg (by omega), if_neg (by omega)]
  simp only [Option.bind_some]
  exact fin
end Go.Proofs.Ytahcngeimlkcgaa.M
