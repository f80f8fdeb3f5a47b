/- Brackets, read exactly: a reader's nodes and what it tells. -/
import Derived.Test.YtahcngeimlkcgaaP11E
import Derived.Test.YtahcngeimlkcgaaQ2
namespace Go.Proofs.Ytahcngeimlkcgaa.M
open Go Am Sy
set_option linter.unusedVariables false
set_option linter.unusedSimpArgs false
set_option maxRecDepth 100000
def sg (N : List api_Node) : List (Int × Bool) := N.map fun x => (x.Kind, x.Key)
theorem sg_set {N : List api_Node} {i : Nat} {x y : api_Node} (hx : N[i]? = some x) : sg (N.set i y) = (sg N).set i (y.Kind, y.Key) := by
 unfold sg; rw [List.map_set]
theorem sg_same {N : List api_Node} {i : Nat} {x y : api_Node} (hx : N[i]? = some x) (h1 : y.Kind = x.Kind) (h2 : y.Key = x.Key) : sg (N.set i y) = sg N := by
 rw [sg_set hx, h1, h2]
 have hi := lt_of hx
 show (N.map fun x => (x.Kind, x.Key)).set i (x.Kind, x.Key) = N.map fun x => (x.Kind, x.Key)
 have hi' : i < (N.map fun x => (x.Kind, x.Key)).length := by simpa using hi
 have : (N.map fun x => (x.Kind, x.Key))[i] = (x.Kind, x.Key) := by
  rw [List.getElem_map]
  have := List.getElem?_eq_getElem hi
  rw [hx] at this
  rw [← Option.some.inj this]
 rw [← this]; exact List.set_getElem_self hi'
theorem growL_sg : ∀ (k : Nat) (N : List api_Node) (i to : Int), sg (growL k N i to) = sg N := by
 intro k
 induction k with
 | zero => intro N i to; rfl
 | succ k ih =>
  intro N i to
  simp only [growL]
  split
  ·split
   ·rename_i x hx
    rw [ih, sg_same (y := toMax x to) hx rfl rfl]
   ·rfl
  ·rfl
theorem addL_sg {N : List api_Node} {up : Nat} (hu : up < N.length) (kind frm to : Int) : sg (addL N (up : Int) kind frm to) = sg N ++ [(kind, false)] := by
 unfold addL
 rw [Int.toNat_natCast, List.getElem?_eq_getElem hu]
 simp only
 have h1 : (N ++ [(⟨kind, frm, to, (up : Int), [], false⟩ : api_Node)])[up]? = some N[up] := by
  rw [List.getElem?_append_left hu, List.getElem?_eq_getElem hu]
 rw [growL_sg, sg_same (y := { N[up] with Kids := N[up].Kids ++ [(N.length : Int)] }) h1 rfl rfl]
 unfold sg
 rw [List.map_append]
 rfl
theorem add_sg (F : Nat) (hF : 2500 ≤ F) (r : flow_reader) {n : Int} (h : G r.t_.Nodes n) (hl : r.t_.Nodes.length ≤ 2400) {up : Nat} (hu : up < r.t_.Nodes.length) {kind frm to : Int} (hk : 1 ≤ kind ∧ kind ≤ 11) (hft : frm ≤ to) (ht : to ≤ n) (he : ∀ e, endOf r.t_.Nodes up = some e → e ≤ frm) {k : Int} {r' : flow_reader} (hq : flow_reader_add F r (up : Int) kind frm to = some (k, r')) : sg r'.t_.Nodes = sg r.t_.Nodes ++ [(kind, false)] := by
 obtain ⟨x, hx, hxt⟩ := h.root0
 have hm : mayAdd r.t_.Nodes (up : Int) kind frm to := ⟨by omega, by omega, hk.1, hk.2, hft, ⟨x, hx, by omega⟩, by
  have hex : ∃ e, endOf r.t_.Nodes up = some e := by unfold endOf; rw [List.getElem?_eq_getElem hu]; exact ⟨_, rfl⟩
  obtain ⟨e, hex⟩ := hex
  exact ⟨e, by rw [Int.toNat_natCast]; exact hex, he _ hex⟩⟩
 unfold flow_reader_add at hq
 rw [add_yes F r.t_ _ _ _ _ (h.small (by omega)) (by omega) (by omega) hm] at hq
 simp only [Option.bind_some, Option.some.injEq, Prod.mk.injEq] at hq
 rw [← hq.2]
 exact addL_sg hu _ _ _
def kx (K : List Int) (i : Nat) : Int := (K[i]?).getD 0
theorem kx_at {K : List Int} {i : Nat} {a : Int} {Y : List Int} (h : K.drop i = a :: Y) : kx K i = a := by
 unfold kx; rw [drop0 h]; rfl
structure St (K : List Int) (c : Nat) (r : flow_reader) (p : Nat) (S : List (Int × Bool)) (q : Nat) : Prop where
 rd : Rd (K.length : Int) r (p : Int)
 l : r.l_.map (·.Kind) = K
 e : r.end_ = K.length
 s : Sp r.t_.Nodes c
 g : sg r.t_.Nodes = S
 d : r.d_.length = q
theorem St.len {K : List Int} {c : Nat} {r : flow_reader} {p : Nat} {S : List (Int × Bool)} {q : Nat} (h : St K c r p S q) : r.t_.Nodes.length = S.length := by
 rw [← h.g]; unfold sg; rw [List.length_map]
theorem St.kd {K : List Int} {c : Nat} {r : flow_reader} {p : Nat} {S : List (Int × Bool)} {q : Nat} (h : St K c r p S q) (i : Nat) : kd r (i : Int) = kx K i := by
 unfold M.kd kx
 have hl : r.l_.length = K.length := by rw [← h.l, List.length_map]
 have he := h.e
 by_cases c : i < K.length
 ·rw [if_neg (by omega), Int.toNat_natCast, ← h.l, List.getElem?_map, List.getElem?_eq_getElem (by omega)]
  rfl
 ·rw [if_pos (by omega), List.getElem?_eq_none (by omega)]
  rfl
theorem St.tok {K : List Int} {c : Nat} {r : flow_reader} {p : Nat} {S : List (Int × Bool)} {q : Nat} (h : St K c r p S q) {i : Nat} {x : api_Token} (hg : r.l_[i]? = some x) : x.Kind = kx K i := by
 have : K[i]? = some x.Kind := by rw [← h.l, List.getElem?_map, hg]; rfl
 unfold kx
 rw [this]
 rfl
theorem St.more {K : List Int} {c : Nat} {r : flow_reader} {p p' : Nat} {S : List (Int × Bool)} {q : Nat} (h : St K c r p S q) (hp : p ≤ p') : St K c r p' S q :=
 { h with rd := ⟨h.rd.ri, h.rd.nl, h.rd.g, h.rd.b.mono (by omega), h.rd.er⟩ }
section
variable {F : Nat} {K : List Int} {c : Nat} {r : flow_reader} {p : Nat} {S : List (Int × Bool)} {q : Nat}
theorem st_add (hF : 2500 ≤ F) (h : St K c r p S q) (hS : S.length ≤ 2400) {up : Nat} (hs : Sp r.t_.Nodes up) (hcu : c ≤ up) {kind : Int} (hk : 1 ≤ kind ∧ kind < 11) {frm to : Nat} (hp : p ≤ frm) (hft : frm ≤ to) (ht : to ≤ K.length) :
  ∃ r', flow_reader_add F r (up : Int) kind (frm : Int) (to : Int) = some ((S.length : Int), r') ∧ St K c r' to (S ++ [(kind, false)]) q ∧ Sp r'.t_.Nodes S.length ∧ (∀ v, v ≤ up → Sp r.t_.Nodes v → Sp r'.t_.Nodes v) ∧ (∃ z, r'.t_.Nodes[S.length]? = some z ∧ z.From = frm ∧ z.Kids = []) := by
 have hl := h.len
 have he := h.e
 obtain ⟨r1, a1, a2, a3, a4, a5, a6, a7, _⟩ := add_rd F hF h.rd (by omega) (by omega) hs (kind := kind) (frm := frm) (to := to) hk (by omega) (by omega) (by omega)
 have s1 := add_sg F hF r h.rd.g (by omega) (hs.lt h.rd.g) (kind := kind) (frm := frm) (to := to) ⟨hk.1, by omega⟩ (by omega) (by omega) (fun e q => Int.le_trans (endOf_le h.rd.g h.rd.b (by omega) up e q) (by omega)) a1
 rw [hl] at a1 a4 a7
 exact ⟨r1, a1, ⟨a2, by rw [a3.l]; exact h.l, by rw [a3.e]; exact h.e, a3.sp c hcu h.s, by rw [s1, h.g], by rw [a5]; exact h.d⟩, a4, a3.sp, a7⟩
theorem st_wrong (hF : 2500 ≤ F) (h : St K c r p S q) (hS : S.length ≤ 2400) (hq : q ≤ 100000) {code : Int} (hc : code ≠ 9) {frm to : Nat} (hp : p ≤ frm) (hft : frm < to) (ht : to ≤ K.length) :
  ∃ r', flow_reader_wrong F r code (c : Int) (frm : Int) (to : Int) = some ((S.length : Int), r') ∧ St K c r' to (S ++ [(11, false)]) (q + 1) := by
 have hl := h.len
 have he := h.e
 have hd := h.d
 obtain ⟨r1, a1, a2, a3, _⟩ := wrong_rd F hF h.rd (by omega) (by omega) (by omega) h.s (code := code) (frm := frm) (to := to) hc (by omega) (by omega) (by omega)
 obtain ⟨x, t1, t2⟩ := tell_ex F r h.rd.ri code frm to (by omega) (by omega) (by omega) (by omega)
 have a1' := a1
 unfold flow_reader_wrong at a1'
 rw [t1] at a1'
 simp only [Option.bind_some] at a1'
 obtain ⟨N', n1, n2⟩ := add_ex F hF ⟨r.l_, r.end_, r.t_, r.d_ ++ [x]⟩ h.rd.g (by show r.t_.Nodes.length ≤ 2400; omega) (h.s.lt h.rd.g) h.s (kind := 11) (frm := frm) (to := to) ⟨by omega, by omega⟩ (by omega) (by omega) (fun e q => Int.le_trans (endOf_le h.rd.g h.rd.b (by omega) c e q) (by omega))
 have s1 := add_sg F hF ⟨r.l_, r.end_, r.t_, r.d_ ++ [x]⟩ h.rd.g (by show r.t_.Nodes.length ≤ 2400; omega) (h.s.lt h.rd.g) (kind := 11) (frm := frm) (to := to) ⟨by omega, by omega⟩ (by omega) (by omega) (fun e q => Int.le_trans (endOf_le h.rd.g h.rd.b (by omega) c e q) (by omega)) n1
 rw [n1] at a1'
 simp only [Option.bind_some, Option.some.injEq, Prod.mk.injEq] at a1'
 rw [hl] at a1
 refine ⟨r1, a1, ⟨a2, by rw [a3.l]; exact h.l, by rw [a3.e]; exact h.e, a3.sp c (Nat.le_refl _) h.s, ?_, ?_⟩⟩
 ·rw [← a1'.2, s1]; show sg r.t_.Nodes ++ _ = _; rw [h.g]
 ·rw [← a1'.2]; show (r.d_ ++ [x]).length = _; rw [List.length_append, List.length_singleton, hd]
theorem st_grow (hF : 2500 ≤ F) (h : St K c r p S q) (hS : S.length ≤ 2400) {to : Nat} (hp : p ≤ to) (ht : to ≤ K.length) :
  ∃ t', arena_Grow F r.t_ (c : Int) (to : Int) = some t' ∧ St K c (⟨r.l_, r.end_, t', r.d_⟩ : flow_reader) to S q := by
 have hl := h.len
 have he := h.e
 obtain ⟨t', g1, g2, g3⟩ := grow_rd F hF h.rd (by omega) h.s (to := (to : Int)) (by omega) (by omega)
 refine ⟨t', g1, ⟨g2, h.l, h.e, (g3 c).sp c (Nat.le_refl _) h.s, ?_, h.d⟩⟩
 have hc := h.s.lt h.rd.g
 have hn := h.rd.nl
 obtain ⟨x, hx, hxt⟩ := h.rd.g.root0
 have hp := h.rd.g.pos
 have hx0 : r.t_.Nodes[0] = x := by have := List.getElem?_eq_getElem hp; rw [hx] at this; exact (Option.some.inj this).symm
 have hg := grow_eq F r.t_ (c : Int) (to : Int) (h.rd.g.small (by omega)) (by omega) hp
 rw [if_pos ⟨by omega, by omega, by rw [hx0]; omega⟩] at hg
 rw [hg] at g1
 rw [← Option.some.inj g1]
 show sg (growL _ _ _ _) = S
 rw [growL_sg, h.g]
theorem st_mark (h : St K c r p S q) {i : Nat} {x : api_Node} (hx : r.t_.Nodes[i]? = some x) (b : Bool) : St K c (⟨r.l_, r.end_, ⟨r.t_.Nodes.set i (⟨x.Kind, x.From, x.To, x.Up, x.Kids, b⟩ : api_Node)⟩, r.d_⟩ : flow_reader) p (S.set i (x.Kind, b)) q ∧ ∀ v, Sp r.t_.Nodes v → Sp (r.t_.Nodes.set i (⟨x.Kind, x.From, x.To, x.Up, x.Kids, b⟩ : api_Node)) v := by
 obtain ⟨m1, m2⟩ := mark_rd h.rd hx b
 refine ⟨⟨m1, h.l, h.e, (m2 c).sp c (Nat.le_refl _) h.s, ?_, h.d⟩, fun v hv => (m2 v).sp v (Nat.le_refl _) hv⟩
 show sg (r.t_.Nodes.set i _) = _
 rw [sg_set hx, h.g]
theorem st_kind (h : St K c r p S q) {i : Nat} {x : api_Node} (hx : r.t_.Nodes[i]? = some x) {k : Int} {b : Bool} (hs : S[i]? = some (k, b)) : x.Kind = k := by
 rw [← h.g] at hs
 unfold sg at hs
 rw [List.getElem?_map, hx] at hs
 simp only [Option.map_some, Option.some.injEq, Prod.mk.injEq] at hs
 exact hs.1
theorem past_here (hF : 2500 ≤ F) (h : St K c r p S q) {i : Nat} (hk : kx K i = 0 ∨ cn (kx K i) = true) : flow_reader_past F r (i : Int) = some (i : Int) := by
 unfold flow_reader_past
 rw [kind_eq F r h.rd.ri, h.kd]
 simp only [Option.bind_some]
 obtain ⟨F, rfl⟩ : ∃ m, F = m + 1 := ⟨F - 1, by omega⟩
 rw [flow_reader_past_l0]
 rcases hk with hk | hk
 ·rw [if_pos hk]; rfl
 ·rw [cn_eq, hk]
  simp only [Option.bind_some, if_true]
  split <;> rfl
theorem past_skip (hF : 2500 ≤ F) (h : St K c r p S q) {i : Nat} (hi : i ≤ 1000) (h3 : kx K i = 3) (hk : kx K (i + 1) = 0 ∨ cn (kx K (i + 1)) = true) : flow_reader_past F r (i : Int) = some ((i + 1 : Nat) : Int) := by
 unfold flow_reader_past
 rw [kind_eq F r h.rd.ri, h.kd]
 simp only [Option.bind_some]
 have : ∀ n, 2 ≤ n → flow_reader_past_l0 F r (i : Int) n (i : Int) (kx K i) = some ((i + 1 : Nat) : Int) := by
  intro n hn
  obtain ⟨n, rfl⟩ : ∃ m, n = m + 2 := ⟨n - 2, by omega⟩
  rw [flow_reader_past_l0, if_neg (by omega), cn_eq, h3]
  simp only [Option.bind_some]
  rw [if_neg (by decide), w1n (by omega), kind_eq F r h.rd.ri, h.kd]
  simp only [Option.bind_some]
  rw [flow_reader_past_l0]
  rcases hk with hk | hk
  ·rw [if_pos hk]
  ·rw [cn_eq, hk]
   simp only [Option.bind_some, if_true, ite_self]
 rw [this F (by omega)]
 rfl
theorem blanks_here (hF : 2500 ≤ F) (h : St K c r p S q) {i : Nat} (hk : kx K i ≠ 3) : flow_reader_blanks F r (i : Int) = some (i : Int) := by
 unfold flow_reader_blanks
 have : ∀ n, 1 ≤ n → flow_reader_blanks_l0 F r (i : Int) n (i : Int) = some (i : Int) := by
  intro n hn
  obtain ⟨n, rfl⟩ : ∃ m, n = m + 1 := ⟨n - 1, by omega⟩
  rw [flow_reader_blanks_l0, kind_eq F r h.rd.ri, h.kd]
  simp only [Option.bind_some]
  rw [if_neg hk]
 rw [this F (by omega)]
 rfl
theorem over_here (hF : 2500 ≤ F) (h : St K c r p S q) {i : Nat} (hi : i < K.length) (hk : cn (kx K i) = true) : flow_reader_over F r (i : Int) ((i + 1 : Nat) : Int) = some ((i + 1 : Nat) : Int) := by
 have hl : r.l_.length = K.length := by rw [← h.l, List.length_map]
 have hn := h.rd.ri.n
 unfold flow_reader_over
 have : ∀ n, 1 ≤ n → flow_reader_over_l0 F r (i : Int) ((i + 1 : Nat) : Int) n ((i + 1 : Nat) : Int) = some ((i + 1 : Nat) : Int) := by
  intro n hn
  obtain ⟨n, rfl⟩ : ∃ m, n = m + 1 := ⟨n - 1, by omega⟩
  have hw : w64 (((i + 1 : Nat) : Int) - 1) = (i : Int) := by rw [w64_eq (by omega) (by omega)]; omega
  have hg := List.getElem?_eq_getElem (l := r.l_) (i := i) (by omega)
  have hkd := h.tok hg
  rw [flow_reader_over_l0, if_pos (by omega), hw, if_pos (by omega), Int.toNat_natCast, hg]
  simp only [Option.bind_some, cn_eq, hkd, hk, if_true]
 rw [this F (by omega)]
 rfl
theorem over_same (hF : 2500 ≤ F) (i : Nat) : flow_reader_over F r (i : Int) (i : Int) = some (i : Int) := by
 unfold flow_reader_over
 obtain ⟨F, rfl⟩ : ∃ m, F = m + 1 := ⟨F - 1, by omega⟩
 rw [flow_reader_over_l0, if_neg (by omega)]
 rfl
theorem key_l0 (hF : 2500 ≤ F) (h : St K c r p S q) {i : Nat} (hk : kx K i ≠ 12 ∧ kx K i ≠ 14) : flow_reader_key_l0 F r (i : Int) F (i : Int) = some (i : Int) := by
 have : ∀ n, 1 ≤ n → flow_reader_key_l0 F r (i : Int) n (i : Int) = some (i : Int) := by
  intro n hn
  obtain ⟨n, rfl⟩ : ∃ m, n = m + 1 := ⟨n - 1, by omega⟩
  rw [flow_reader_key_l0, kind_eq F r h.rd.ri, h.kd]
  simp only [Option.bind_some, prop_eq, decide_eq_true_eq]
  rw [if_neg (by omega)]
 exact this F (by omega)
theorem key_name (hF : 2500 ≤ F) (h : St K c r p S q) {i : Nat} (hi : i ≤ 1000) (hk : kx K i = 15 ∨ kx K i = 16) (hk2 : kx K (i + 1) = 0 ∨ cn (kx K (i + 1)) = true) : flow_reader_key F r (i : Int) = some (if kx K (i + 1) = 6 then ((i + 1 : Nat) : Int) else -1) := by
 unfold flow_reader_key
 rw [key_l0 hF h (by omega)]
 simp only [Option.bind_some, kind_eq F r h.rd.ri]
 have hnm : flow_name F (kx K i) = some true := by rcases hk with hk | hk <;> rw [hk] <;> rfl
 rw [h.kd, hnm, w1n (by omega), past_here hF h hk2]
 simp only [Option.bind_some, if_true, kind_eq F r h.rd.ri]
 rw [h.kd]
 split <;> rfl
theorem key_other (hF : 2500 ≤ F) (h : St K c r p S q) {i : Nat} (hk : kx K i = 6 ∨ kx K i = 7 ∨ kx K i = 10 ∨ kx K i = 11) : flow_reader_key F r (i : Int) = some (if kx K i = 6 then (i : Int) else -1) := by
 unfold flow_reader_key
 rw [key_l0 hF h (by omega)]
 simp only [Option.bind_some, kind_eq F r h.rd.ri]
 have hnm : flow_name F (kx K i) = some false := by rcases hk with hk | hk | hk | hk <;> rw [hk] <;> rfl
 rw [h.kd, hnm]
 simp only [Option.bind_some, Bool.false_eq_true, if_false, kind_eq F r h.rd.ri]
 rw [h.kd]
 split <;> rfl
end
end Go.Proofs.Ytahcngeimlkcgaa.M
