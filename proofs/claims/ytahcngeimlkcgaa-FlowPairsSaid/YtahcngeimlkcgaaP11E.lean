/- Brackets: a value is read; what it leaves. -/
import Derived.Test.YtahcngeimlkcgaaP11D
namespace Go.Proofs.Ytahcngeimlkcgaa.M
open Go Am Sy
set_option linter.unusedVariables false
set_option linter.unusedSimpArgs false
structure Rd (n : Int) (r : flow_reader) (p : Int) : Prop where
 ri : RI r
 nl : n = r.l_.length
 g : G r.t_.Nodes n
 b : Below r.t_.Nodes p
 er : errs r.t_.Nodes = told r.d_
structure To (r r' : flow_reader) (up : Nat) (s m : Int) : Prop where
 l : r'.l_ = r.l_
 e : r'.end_ = r.end_
 sz : (r'.t_.Nodes.length : Int) ≤ r.t_.Nodes.length + s
 ge : r.t_.Nodes.length ≤ r'.t_.Nodes.length
 dl : (r'.d_.length : Int) ≤ r.d_.length + m
 sp : ∀ v, v ≤ up → Sp r.t_.Nodes v → Sp r'.t_.Nodes v
theorem To.refl (r : flow_reader) (up : Nat) : To r r up 0 0 := ⟨rfl, rfl, by omega, Nat.le_refl _, by omega, fun v _ h => h⟩
theorem To.trans {a b c : flow_reader} {up up2 : Nat} {s m s2 m2 : Int} (h : To a b up s m) (k : To b c up2 s2 m2) (hu : up ≤ up2) : To a c up (s + s2) (m + m2) :=
 ⟨k.l.trans h.l, k.e.trans h.e, by have := h.sz; have := k.sz; omega, Nat.le_trans h.ge k.ge, by have := h.dl; have := k.dl; omega, fun v hv q => k.sp v (by omega) (h.sp v hv q)⟩
theorem To.le {a b : flow_reader} {up : Nat} {s m s2 m2 : Int} (h : To a b up s m) (hs : s ≤ s2) (hm : m ≤ m2) : To a b up s2 m2 := { h with sz := by have := h.sz; omega, dl := by have := h.dl; omega }
theorem Below.mono {N : List api_Node} {p q : Int} (h : Below N p) (hpq : p ≤ q) : Below N q := fun i x hx hi => Int.le_trans (h i x hx hi) hpq
theorem RI.of {r r' : flow_reader} (h : RI r) (hl : r'.l_ = r.l_) (he : r'.end_ = r.end_) : RI r' := ⟨by rw [he]; exact h.e0, by rw [he, hl]; exact h.e1, by rw [hl]; exact h.n⟩
theorem Sp.lt {N : List api_Node} {n : Int} (h : G N n) {v : Nat} (hs : Sp N v) : v < N.length := by
 cases hs with
 | root => exact h.pos
 | kid h1 hx hk =>
  obtain ⟨_, _, q, _⟩ := (h.lies _ _ hx).1.mem _ (List.mem_of_getLast? hk)
  omega
theorem add_rd (F : Nat) (hF : 2500 ≤ F) {n : Int} {r : flow_reader} {p : Int} (h : Rd n r p) (hp : 0 ≤ p) (hl : r.t_.Nodes.length ≤ 2400) {up : Nat} (hs : Sp r.t_.Nodes up) {kind frm to : Int} (hk : 1 ≤ kind ∧ kind < 11) (hft : frm ≤ to) (ht : to ≤ r.end_) (hpf : p ≤ frm) :
  ∃ r', flow_reader_add F r (up : Int) kind frm to = some ((r.t_.Nodes.length : Int), r') ∧ Rd n r' to ∧ To r r' up 1 0 ∧ Sp r'.t_.Nodes r.t_.Nodes.length ∧ r'.d_ = r.d_ ∧ r'.t_.Nodes.length = r.t_.Nodes.length + 1 ∧ (∃ z, r'.t_.Nodes[r.t_.Nodes.length]? = some z ∧ z.From = frm ∧ z.Kids = []) ∧ Below r'.t_.Nodes (max p to) := by
 have hn := h.nl
 have he1 := h.ri.e1
 obtain ⟨N', q1, q2⟩ := add_ex F hF r h.g hl (hs.lt h.g) hs (kind := kind) (frm := frm) (to := to) ⟨hk.1, by omega⟩ hft (by omega) (fun e he => Int.le_trans (endOf_le h.g h.b hp up e he) hpf)
 refine ⟨_, q1, ⟨h.ri.of rfl rfl, hn, q2.g, q2.bel _ (h.b.mono (by omega)) (Int.le_refl _), ?_⟩, ⟨rfl, rfl, ?_, ?_, ?_, q2.old⟩, q2.new, rfl, q2.len, q2.fresh, q2.bel _ (h.b.mono (by omega)) (by omega)⟩
 ·show errs N' = told r.d_
  rw [q2.err, if_neg (by omega)]; exact h.er
 ·show (N'.length : Int) ≤ _; rw [q2.len]; omega
 ·show _ ≤ N'.length; rw [q2.len]; omega
 ·show (r.d_.length : Int) ≤ _; omega
theorem wrong_rd (F : Nat) (hF : 2500 ≤ F) {n : Int} {r : flow_reader} {p : Int} (h : Rd n r p) (hp : 0 ≤ p) (hl : r.t_.Nodes.length ≤ 2400) (hd : r.d_.length ≤ 100000) {up : Nat} (hs : Sp r.t_.Nodes up) {code frm to : Int} (hc : code ≠ 9) (hft : frm < to) (ht : to ≤ r.end_) (hpf : p ≤ frm) :
  ∃ r', flow_reader_wrong F r code (up : Int) frm to = some ((r.t_.Nodes.length : Int), r') ∧ Rd n r' to ∧ To r r' up 1 1 ∧ Sp r'.t_.Nodes r.t_.Nodes.length := by
 have hn := h.nl
 have he1 := h.ri.e1
 obtain ⟨x, t1, t2⟩ := tell_ex F r h.ri code frm to (by omega) hft ht hd
 obtain ⟨N', q1, q2⟩ := add_ex F hF ⟨r.l_, r.end_, r.t_, r.d_ ++ [x]⟩ h.g hl (hs.lt h.g) hs (kind := 11) (frm := frm) (to := to) ⟨by omega, by omega⟩ (by omega) (by omega) (fun e he => Int.le_trans (endOf_le h.g h.b hp up e he) hpf)
 unfold flow_reader_wrong
 rw [t1]
 simp only [Option.bind_some, q1]
 refine ⟨_, rfl, ⟨h.ri.of rfl rfl, hn, q2.g, q2.bel _ (h.b.mono (by omega)) (Int.le_refl _), ?_⟩, ⟨rfl, rfl, ?_, ?_, ?_, q2.old⟩, q2.new⟩
 ·show errs N' = told (r.d_ ++ [x])
  rw [q2.err, if_pos rfl, told_snoc, t2, if_neg hc]; have := h.er; show errs r.t_.Nodes + 1 = _; omega
 ·show (N'.length : Int) ≤ _; rw [q2.len]; show ((r.t_.Nodes.length + 1 : Nat) : Int) ≤ _; omega
 ·show _ ≤ N'.length; rw [q2.len]; show r.t_.Nodes.length ≤ r.t_.Nodes.length + 1; omega
 ·show ((r.d_ ++ [x]).length : Int) ≤ _; rw [List.length_append, List.length_singleton]; omega
theorem grow_rd (F : Nat) (hF : 2500 ≤ F) {n : Int} {r : flow_reader} {p : Int} (h : Rd n r p) (hl : r.t_.Nodes.length ≤ 2400) {c : Nat} (hs : Sp r.t_.Nodes c) {to : Int} (ht : to ≤ r.end_) (hpt : p ≤ to) :
  ∃ t', arena_Grow F r.t_ (c : Int) to = some t' ∧ Rd n (⟨r.l_, r.end_, t', r.d_⟩ : flow_reader) to ∧ ∀ up, To r (⟨r.l_, r.end_, t', r.d_⟩ : flow_reader) up 0 0 := by
 have hn := h.nl
 have he1 := h.ri.e1
 have hc := hs.lt h.g
 obtain ⟨x, hx, hxt⟩ := h.g.root0
 have hp := h.g.pos
 have hx0 : r.t_.Nodes[0] = x := by have := List.getElem?_eq_getElem hp; rw [hx] at this; exact (Option.some.inj this).symm
 have hg := grow_eq F r.t_ (c : Int) to (h.g.small (by omega)) (by omega) hp
 rw [if_pos ⟨by omega, by omega, by rw [hx0]; omega⟩] at hg
 refine ⟨_, hg, ⟨h.ri.of rfl rfl, hn, ?_, growL_below _ _ _ _ _ (h.b.mono hpt) (Int.le_refl _), ?_⟩, fun up => ⟨rfl, rfl, ?_, ?_, ?_, fun v _ q => q.kids (growL_kids _ _ _ _)⟩⟩
 ·exact (h.g.gx (c : Int) to).grow (by omega) _ _ _ (by omega) (by omega) (fun _ => by rw [Int.toNat_natCast]; exact hs)
 ·have : errs (growL r.t_.Nodes.length r.t_.Nodes (c : Int) to) = errs r.t_.Nodes := by unfold errs; rw [growL_kind]
  show errs (growL r.t_.Nodes.length r.t_.Nodes (c : Int) to) = told r.d_
  rw [this]; exact h.er
 ·show ((growL r.t_.Nodes.length r.t_.Nodes (c : Int) to).length : Int) ≤ _; rw [growL_length]; omega
 ·show _ ≤ (growL r.t_.Nodes.length r.t_.Nodes (c : Int) to).length; rw [growL_length]; exact Nat.le_refl _
 ·show (r.d_.length : Int) ≤ _; omega
theorem mark_rd {n : Int} {r : flow_reader} {p : Int} (h : Rd n r p) {i : Nat} {x : api_Node} (hx : r.t_.Nodes[i]? = some x) (b : Bool) :
  Rd n (⟨r.l_, r.end_, ⟨r.t_.Nodes.set i (⟨x.Kind, x.From, x.To, x.Up, x.Kids, b⟩ : api_Node)⟩, r.d_⟩ : flow_reader) p ∧ (∀ up, To r (⟨r.l_, r.end_, ⟨r.t_.Nodes.set i (⟨x.Kind, x.From, x.To, x.Up, x.Kids, b⟩ : api_Node)⟩, r.d_⟩ : flow_reader) up 0 0) := by
 have hi := lt_of hx
 have hk := set_kids (y := (⟨x.Kind, x.From, x.To, x.Up, x.Kids, b⟩ : api_Node)) hx rfl
 have hback : ∀ (j : Nat) y', (r.t_.Nodes.set i (⟨x.Kind, x.From, x.To, x.Up, x.Kids, b⟩ : api_Node))[j]? = some y' → ∃ y, r.t_.Nodes[j]? = some y ∧ y'.Kind = y.Kind ∧ y'.From = y.From ∧ y'.To = y.To ∧ y'.Up = y.Up ∧ y'.Kids = y.Kids := by
  intro j y' hy
  by_cases e : j = i
  ·subst e
   rw [List.getElem?_set_self hi] at hy; simp only [Option.some.injEq] at hy; subst hy
   exact ⟨x, hx, rfl, rfl, rfl, rfl, rfl⟩
  ·rw [List.getElem?_set_ne (Ne.symm e)] at hy; exact ⟨y', hy, rfl, rfl, rfl, rfl, rfl⟩
 refine ⟨⟨h.ri.of rfl rfl, h.nl, h.g.same (List.length_set) hback, fun j y' hy hj => ?_, ?_⟩, fun up => ⟨rfl, rfl, ?_, ?_, ?_, fun v _ q => q.kids hk⟩⟩
 ·obtain ⟨y, q1, _, _, q4, _⟩ := hback j y' hy
  rw [q4]; exact h.b j y q1 hj
 ·show errs (r.t_.Nodes.set i _) = told r.d_
  unfold errs
  rw [set_kind (y := (⟨x.Kind, x.From, x.To, x.Up, x.Kids, b⟩ : api_Node)) hx rfl]; exact h.er
 ·show ((r.t_.Nodes.set i _).length : Int) ≤ _; rw [List.length_set]; omega
 ·show _ ≤ (r.t_.Nodes.set i _).length; rw [List.length_set]; exact Nat.le_refl _
 ·show (r.d_.length : Int) ≤ _; omega
abbrev Rec := flow_reader → Int → Int → Int → Option (Int × Int × flow_reader)
def VS (rec : Rec) (depth : Int) : Prop :=
 ∀ (n : Int) (r : flow_reader) (up : Nat) (at_ : Int), Rd n r at_ → Sp r.t_.Nodes up → 0 ≤ at_ → at_ ≤ r.end_ → (r.t_.Nodes.length : Int) ≤ 2 * at_ + 2 → (r.d_.length : Int) ≤ 4 * at_ →
  ∃ node next r', rec r (up : Int) at_ depth = some (node, next, r') ∧ ((node = -1 ∧ next = at_ ∧ r' = r) ∨ (0 ≤ node ∧ at_ < next ∧ next ≤ r.end_ ∧ Rd n r' next ∧ To r r' up (2 * (next - at_) - 1) (4 * (next - at_))))
theorem has_ex (F : Nat) (hF : 2500 ≤ F) (l : List api_Token) (hl : l.length ≤ 1000) : ∃ b, slices_ContainsFunc_api_Token F l = some b := by
 have key : ∀ (d n i : Nat), i + d = l.length → d < n → ∃ s, slices_IndexFunc_api_Token_l0 F l n (i : Int) = some s := by
  intro d
  induction d with
  | zero =>
   intro n i h1 h2
   obtain ⟨n, rfl⟩ : ∃ m, n = m + 1 := ⟨n - 1, by omega⟩
   rw [slices_IndexFunc_api_Token_l0, if_neg (by omega)]; exact ⟨_, rfl⟩
  | succ d ih =>
   intro n i h1 h2
   obtain ⟨n, rfl⟩ : ∃ m, n = m + 1 := ⟨n - 1, by omega⟩
   have hi : i < l.length := by omega
   rw [slices_IndexFunc_api_Token_l0, if_pos (by omega), if_pos (by omega), Int.toNat_natCast, List.getElem?_eq_getElem hi]
   simp only [Option.bind_some]
   have hs : ∃ b, flow_reader_scalar_1 F l[i] = some b := by unfold flow_reader_scalar_1; split <;> exact ⟨_, rfl⟩
   obtain ⟨b, hb⟩ := hs
   rw [hb]
   simp only [Option.bind_some]
   cases b with
   | true => rw [if_pos rfl]; exact ⟨_, rfl⟩
   | false =>
    have hw : w64 ((i : Int) + 1) = ((i + 1 : Nat) : Int) := by rw [w64_eq (by omega) (by omega)]; omega
    rw [if_neg (by simp), hw]
    exact ih n (i + 1) (by omega) (by omega)
 obtain ⟨s, hs⟩ := key l.length F 0 (by omega) (by omega)
 unfold slices_ContainsFunc_api_Token slices_IndexFunc_api_Token
 rw [show ((0 : Nat) : Int) = 0 from rfl] at hs
 rw [hs]
 simp only [Option.bind_some]
 cases s with
 | inl u => exact ⟨_, rfl⟩
 | inr j =>
  simp only [Option.bind_some]
  split <;> exact ⟨_, rfl⟩
theorem scalar_ex (F : Nat) (hF : 2500 ≤ F) {n : Int} {r : flow_reader} {colon : Int} (h : Rd n r (colon + 1)) (hl : r.t_.Nodes.length ≤ 2400) {u : Nat} (hs : Sp r.t_.Nodes u) {i : Int} (h0 : 0 ≤ i) (h1 : i ≤ colon) (h2 : colon < r.end_) {z : api_Node} (hz : r.t_.Nodes[u]? = some z) (hzf : z.From = i) (hzk : z.Kids = []) :
  ∃ r', flow_reader_scalar F r (u : Int) i colon = some r' ∧ Rd n r' (colon + 1) ∧ To r r' u 1 0 := by
 have hn := h.nl
 have he1 := h.ri.e1
 have hnn := h.ri.n
 unfold flow_reader_scalar
 obtain ⟨j, j1, j2, j3, _⟩ := over_ex F hF r h.ri i colon h0 h1 (by omega)
 rw [j1]
 simp only [Option.bind_some]
 by_cases c : j = i
 ·rw [if_pos c]; exact ⟨r, rfl, h, (To.refl r u).le (by omega) (by omega)⟩
 rw [if_neg c, if_pos (by omega)]
 obtain ⟨b, hb⟩ := has_ex F hF ((r.l_.take j.toNat).drop i.toNat) (by rw [List.length_drop, List.length_take]; omega)
 rw [hb]
 simp only [Option.bind_some]
 have fin : ∀ k : Int, 1 ≤ k ∧ k < 11 → ∃ r', ((flow_reader_add F r (u : Int) k i j).bind fun r15014 =>
   if 0 ≤ (u : Int) ∧ (u : Int) < (r15014.2.t_.Nodes.length : Int) then
    (r15014.2.t_.Nodes[((u : Int)).toNat]?).bind fun x15033 =>
    some (⟨r15014.2.l_, r15014.2.end_, (⟨r15014.2.t_.Nodes.set ((u : Int)).toNat (⟨x15033.Kind, x15033.From, x15033.To, x15033.Up, x15033.Kids, true⟩ : api_Node)⟩ : arena_Tree), r15014.2.d_⟩ : flow_reader)
   else none) = some r' ∧ Rd n r' (colon + 1) ∧ To r r' u 1 0 := by
  intro k hk
  obtain ⟨N', q1, q2⟩ := add_ex F hF r h.g hl (hs.lt h.g) hs (kind := k) (frm := i) (to := j) ⟨hk.1, by omega⟩ (by omega) (by omega) (fun e he => by rw [endOf_fresh hz hzk e he, hzf]; exact Int.le_refl _)
  rw [q1]
  simp only [Option.bind_some]
  have hul : u < N'.length := by have := hs.lt h.g; rw [q2.len]; omega
  rw [if_pos (by show 0 ≤ (u : Int) ∧ (u : Int) < (N'.length : Int); omega), Int.toNat_natCast, List.getElem?_eq_getElem hul]
  simp only [Option.bind_some]
  have hr1 : Rd n (⟨r.l_, r.end_, ⟨N'⟩, r.d_⟩ : flow_reader) (colon + 1) := ⟨h.ri.of rfl rfl, hn, q2.g, q2.bel _ h.b (by omega), by
   show errs N' = told r.d_
   rw [q2.err, if_neg (by omega)]; exact h.er⟩
  have ht1 : To r (⟨r.l_, r.end_, ⟨N'⟩, r.d_⟩ : flow_reader) u 1 0 := ⟨rfl, rfl, by show (N'.length : Int) ≤ _; rw [q2.len]; omega, by show _ ≤ N'.length; rw [q2.len]; omega, by show (r.d_.length : Int) ≤ _; omega, q2.old⟩
  obtain ⟨m1, m2⟩ := mark_rd hr1 (i := u) (x := N'[u]) (List.getElem?_eq_getElem hul) true
  exact ⟨_, rfl, m1, (ht1.trans (m2 u) (Nat.le_refl _)).le (by omega) (by omega)⟩
 cases b with
 | true => simp only [if_true, Option.bind_some]; exact fin 8 (by omega)
 | false => simp only [Bool.false_eq_true, if_false, Option.bind_some]; exact fin 7 (by omega)
end Go.Proofs.Ytahcngeimlkcgaa.M
