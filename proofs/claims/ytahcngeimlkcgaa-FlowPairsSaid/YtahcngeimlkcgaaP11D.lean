/- Brackets: a node is put in, told; a tree lies as it must. -/
import Derived.Test.YtahcngeimlkcgaaP11C
namespace Go.Proofs.Ytahcngeimlkcgaa.M
open Go Am Sy
set_option linter.unusedVariables false
set_option linter.unusedSimpArgs false
theorem lenSum_app (a b : List api_Node) : lenSum (a ++ b) = lenSum a + lenSum b := by simp [lenSum]
theorem lenSum_mem {N : List api_Node} {x : api_Node} (h : x ∈ N) : x.Kids.length ≤ lenSum N := by
 induction N with
 | nil => cases h
 | cons y N ih =>
  have : lenSum (y :: N) = y.Kids.length + lenSum N := by simp [lenSum]
  rcases List.mem_cons.1 h with rfl | h
  ·omega
  ·have := ih h; omega
theorem lenSum_set : ∀ {N : List api_Node} {i : Nat} {x y : api_Node}, N[i]? = some x → lenSum (N.set i y) + x.Kids.length = lenSum N + y.Kids.length := by
 intro N
 induction N with
 | nil => intro i x y h; simp at h
 | cons z N ih =>
  intro i x y h
  have e : ∀ (a : api_Node) (b : List api_Node), lenSum (a :: b) = a.Kids.length + lenSum b := fun a b => by simp [lenSum]
  cases i with
  | zero => simp at h; subst h; rw [List.set_cons_zero, e, e]; omega
  | succ i =>
   simp only [List.getElem?_cons_succ] at h
   have := ih (y := y) h
   rw [List.set_cons_succ, e, e]; omega
theorem G.small {N : List api_Node} {n : Int} (h : G N n) (hl : N.length ≤ 1000000) : Small N := ⟨hl, fun x hx => by have := lenSum_mem hx; have := h.sum; omega⟩
theorem G.pos {N : List api_Node} {n : Int} (h : G N n) : 0 < N.length := by have := h.sum; omega
theorem G.root0 {N : List api_Node} {n : Int} (h : G N n) : ∃ x, N[0]? = some x ∧ x.To = n := by
 obtain ⟨x, h1, _, _, h2, _⟩ := h.root; exact ⟨x, h1, h2⟩
theorem G.same {N N' : List api_Node} {n : Int} (h : G N n) (hl : N'.length = N.length) (hs : ∀ (i : Nat) x', N'[i]? = some x' → ∃ x, N[i]? = some x ∧ x'.Kind = x.Kind ∧ x'.From = x.From ∧ x'.To = x.To ∧ x'.Up = x.Up ∧ x'.Kids = x.Kids) : G N' n := by
 have hget : ∀ (i : Nat) x, N[i]? = some x → ∃ x', N'[i]? = some x' ∧ x'.Kind = x.Kind ∧ x'.From = x.From ∧ x'.To = x.To ∧ x'.Up = x.Up ∧ x'.Kids = x.Kids := fun i x hx => by
  have hi := lt_of hx
  have h1 : N'[i]? = some N'[i] := List.getElem?_eq_getElem (by omega)
  obtain ⟨y, q1, q2⟩ := hs i _ h1
  rw [hx] at q1; simp only [Option.some.injEq] at q1; subst q1
  exact ⟨_, h1, q2⟩
 have hk : N'.map (·.Kids) = N.map (·.Kids) := by
  apply List.ext_getElem?
  intro i
  rw [List.getElem?_map, List.getElem?_map]
  rcases Nat.lt_or_ge i N.length with q | q
  ·obtain ⟨x', q1, _, _, _, _, q2⟩ := hget i _ (List.getElem?_eq_getElem q)
   rw [q1, List.getElem?_eq_getElem q]; simp [q2]
  ·rw [List.getElem?_eq_none q, List.getElem?_eq_none (by omega)]
 refine ⟨?_, fun i x' hx => ?_, fun i x' hx => ?_, fun x' hx => ?_, by rw [hl, lenSum_kids hk]; exact h.sum⟩
 ·obtain ⟨x, h1, h2, h3, h4, h5⟩ := h.root
  obtain ⟨x', q1, q2, q3, q4, q5, _⟩ := hget 0 x h1
  exact ⟨x', q1, q2.trans h2, q3.trans h3, q4.trans h4, q5.trans h5⟩
 ·obtain ⟨x, q1, _, _, _, q5, _⟩ := hs i x' hx
  rw [q5]; exact h.ups i x q1
 ·obtain ⟨x, q1, _, q3, q4, _, q6⟩ := hs i x' hx
  rw [q3, q4, q6]
  have h1 := h.lies i x q1
  exact ⟨h1.1.of (Int.le_refl _) (fun k hk y hy => by
   obtain ⟨z, _, z2, _⟩ := h1.1.mem k hk
   obtain ⟨y', p1, _, p3, p4, p5, _⟩ := hget _ y hy
   exact ⟨by omega, y', p1, p5, p3, p4⟩), h1.2⟩
 ·obtain ⟨i, hi⟩ := List.getElem?_of_mem hx
  obtain ⟨x, q1, _, _, _, _, q6⟩ := hs i x' hi
  rw [q6]; exact h.nd x (List.mem_of_getElem? q1)
def errs (N : List api_Node) : Nat := (N.map (·.Kind)).countP (fun k => k == 11)
def told (d : List api_Diag) : Nat := d.countP (fun x => !(x.Code == 9))
theorem set_kind {N : List api_Node} {i : Nat} {x y : api_Node} (hx : N[i]? = some x) (hk : y.Kind = x.Kind) : (N.set i y).map (·.Kind) = N.map (·.Kind) := by
 rw [List.map_set, hk]
 have hi := lt_of hx
 have hi' : i < (N.map (·.Kind)).length := by simpa using hi
 have : (N.map (·.Kind))[i] = x.Kind := by
  rw [List.getElem_map]
  have := List.getElem?_eq_getElem hi
  rw [hx] at this
  rw [← Option.some.inj this]
 rw [← this]; exact List.set_getElem_self hi'
theorem growL_kind : ∀ (k : Nat) (N : List api_Node) (i to : Int), (growL k N i to).map (·.Kind) = N.map (·.Kind) := by
 intro k
 induction k with
 | zero => intro N i to; rfl
 | succ k ih =>
  intro N i to
  simp only [growL]
  split
  ·split
   ·rename_i x hx
    rw [ih, set_kind (y := toMax x to) hx rfl]
   ·rfl
  ·rfl
structure Added (N N' : List api_Node) (n : Int) (up : Nat) (kind frm to : Int) : Prop where
 g : G N' n
 len : N'.length = N.length + 1
 bel : ∀ p, Below N p → to ≤ p → Below N' p
 err : errs N' = errs N + (if kind = 11 then 1 else 0)
 new : Sp N' N.length
 old : ∀ v, v ≤ up → Sp N v → Sp N' v
 fresh : ∃ z, N'[N.length]? = some z ∧ z.From = frm ∧ z.Kids = []
theorem added {N : List api_Node} {n : Int} (h : G N n) {up : Nat} (hu : up < N.length) (hs : Sp N up) {kind frm to : Int} (hft : frm ≤ to) (ht : to ≤ n) (he : ∀ e, endOf N up = some e → e ≤ frm) : Added N (addL N up kind frm to) n up kind frm to := by
 have hx : N[up]? = some N[up] := List.getElem?_eq_getElem hu
 unfold addL
 rw [Int.toNat_natCast, hx]
 simp only
 unfold endOf at he
 rw [hx] at he
 simp only [Option.map_some, Option.some.injEq, forall_eq'] at he
 generalize N[up] = x at *
 have hxm := List.mem_of_getElem? hx
 have hset : (N ++ [(⟨kind, frm, to, (up : Int), [], false⟩ : api_Node)]).set up { x with Kids := x.Kids ++ [(N.length : Int)] } = N.set up { x with Kids := x.Kids ++ [(N.length : Int)] } ++ [(⟨kind, frm, to, (up : Int), [], false⟩ : api_Node)] := List.set_append_left _ _ hu
 generalize hN1 : (N ++ [(⟨kind, frm, to, (up : Int), [], false⟩ : api_Node)]).set up { x with Kids := x.Kids ++ [(N.length : Int)] } = N1 at *
 have hlen : N1.length = N.length + 1 := by rw [hset]; simp
 have hat : ∀ (k : Nat) y, N[k]? = some y → ∃ y', N1[k]? = some y' ∧ y'.Kind = y.Kind ∧ y'.From = y.From ∧ y'.To = y.To ∧ y'.Up = y.Up ∧ (k ≠ up → y' = y) := by
  intro k y hy
  have hk := lt_of hy
  rw [hset, List.getElem?_append_left (by rw [List.length_set]; exact hk)]
  by_cases e : k = up
  ·subst e
   rw [hx] at hy; simp only [Option.some.injEq] at hy; subst hy
   exact ⟨_, List.getElem?_set_self hk, rfl, rfl, rfl, rfl, fun q => absurd rfl q⟩
  ·exact ⟨y, by rw [List.getElem?_set_ne (Ne.symm e)]; exact hy, rfl, rfl, rfl, rfl, fun _ => rfl⟩
 have hupx : N1[up]? = some { x with Kids := x.Kids ++ [(N.length : Int)] } := by
  rw [hset, List.getElem?_append_left (by rw [List.length_set]; exact hu), List.getElem?_set_self hu]
 have hnew : N1[N.length]? = some ⟨kind, frm, to, (up : Int), [], false⟩ := by
  rw [hset, List.getElem?_append_right (by rw [List.length_set]; exact Nat.le_refl _)]; simp
 have hback : ∀ (k : Nat) y', N1[k]? = some y' → (k = N.length ∧ y' = ⟨kind, frm, to, (up : Int), [], false⟩) ∨ (k = up ∧ y' = { x with Kids := x.Kids ++ [(N.length : Int)] }) ∨ (k ≠ up ∧ N[k]? = some y') := by
  intro k y' hy
  have hk := lt_of hy
  by_cases e : k = N.length
  ·subst e; rw [hnew] at hy; exact .inl ⟨rfl, (Option.some.inj hy).symm⟩
  ·by_cases e2 : k = up
   ·subst e2; rw [hupx] at hy; exact .inr (.inl ⟨rfl, (Option.some.inj hy).symm⟩)
   ·have h2 : N[k]? = some N[k] := List.getElem?_eq_getElem (by omega)
    obtain ⟨z, q1, _, _, _, _, q2⟩ := hat k _ h2
    rw [hy] at q1; simp only [Option.some.injEq] at q1
    rw [q1, q2 e2]; exact .inr (.inr ⟨e2, h2⟩)
 have hlp : ∀ (j : Nat) y, N[j]? = some y → ∀ T, y.To ≤ T → LP N1 j T y.From y.Kids := fun j y hy T hT =>
  (h.lies j y hy).1.of hT (fun k hk z hz => by
   obtain ⟨w, _, q2, _⟩ := (h.lies j y hy).1.mem k hk
   obtain ⟨z', p1, _, p3, p4, p5, _⟩ := hat _ z hz
   exact ⟨by omega, z', p1, p5, p3, p4⟩)
 have hgx : Gx N1 n up to := by
  refine ⟨?_, fun j y hy => ?_, fun j y hy => ?_, fun y hy => ?_, ?_⟩
  ·obtain ⟨r, r1, r2, r3, r4, r5⟩ := h.root
   obtain ⟨z, q1, q2, q3, q4, q5, _⟩ := hat 0 r r1
   exact ⟨z, q1, q2.trans r2, q3.trans r3, q4.trans r4, q5.trans r5⟩
  ·rcases hback j y hy with ⟨rfl, rfl⟩ | ⟨rfl, rfl⟩ | ⟨_, q⟩
   ·exact .inr ⟨by show (0 : Int) ≤ (up : Int); omega, by show (up : Int) < (N.length : Int); omega⟩
   ·exact h.ups j x hx
   ·exact h.ups j y q
  ·rcases hback j y hy with ⟨rfl, rfl⟩ | ⟨rfl, rfl⟩ | ⟨q0, q⟩
   ·exact ⟨trivial, hft⟩
   ·rw [if_pos rfl]
    refine ⟨?_, (h.lies j x hx).2⟩
    refine LP.snoc (i := (j : Int)) (k := (N.length : Int)) (z := ⟨kind, frm, to, (j : Int), [], false⟩) (by omega) (by omega) (by omega) (by rw [Int.toNat_natCast]; exact hnew) rfl (by show to ≤ max x.To to; omega) (hlp j x hx _ (by show x.To ≤ max x.To to; omega)) (fun e => ?_) (fun c hc y hy => ?_)
    ·rw [e] at he; exact he
    ·rw [hc] at he
     simp only at he
     obtain ⟨w, q1, q2, q3, _⟩ := (h.lies j x hx).1.mem c (List.mem_of_getLast? hc)
     rw [if_pos (by omega), q3] at he
     simp only [imax_eq] at he
     obtain ⟨w', p1, _, _, p4, _⟩ := hat _ w q3
     rw [hy] at p1; simp only [Option.some.injEq] at p1
     rw [p1, p4]; show w.To ≤ frm; omega
   ·rw [if_neg (by omega)]
    exact ⟨hlp j y q _ (Int.le_refl _), (h.lies j y q).2⟩
  ·obtain ⟨j, hj⟩ := List.getElem?_of_mem hy
   rcases hback j y hj with ⟨rfl, rfl⟩ | ⟨rfl, rfl⟩ | ⟨_, q⟩
   ·exact List.nodup_nil
   ·refine List.nodup_append.2 ⟨h.nd x hxm, by simp, fun a ha b hb e => ?_⟩
    simp only [List.mem_singleton] at hb
    obtain ⟨_, _, q2, _⟩ := (h.lies j x hx).1.mem a ha
    omega
   ·exact h.nd y (List.mem_of_getElem? q)
  ·rw [hset, lenSum_app, List.length_append, List.length_set]
   have h1 := lenSum_set (y := { x with Kids := x.Kids ++ [(N.length : Int)] }) hx
   have h2 : ({ x with Kids := x.Kids ++ [(N.length : Int)] } : api_Node).Kids.length = x.Kids.length + 1 := by simp
   have h3 := h.sum
   have h4 : lenSum [(⟨kind, frm, to, (up : Int), [], false⟩ : api_Node)] = 0 := rfl
   rw [h2] at h1
   simp only [List.length_singleton]
   omega
 have hold : ∀ v, Sp N v → v ≤ up → Sp N1 v := by
  intro v hv
  induction hv with
  | root => intro _; exact .root
  | kid h1 hy hk ih =>
   rename_i u k y
   intro hle
   obtain ⟨w, q1, _⟩ := (h.lies u y hy).1.mem _ (List.mem_of_getLast? hk)
   obtain ⟨y', p1, _, _, _, _, p6⟩ := hat u y hy
   rw [p6 (by omega)] at p1
   exact .kid (ih (by omega)) p1 hk
 have hkids := growL_kids (N.length + 1) N1 up to
 have hspnew : Sp N1 N.length := .kid (hold up hs (Nat.le_refl _)) hupx (by simp)
 refine ⟨hgx.grow ht _ _ _ (by omega) (by omega) (fun _ => by rw [Int.toNat_natCast]; exact hold up hs (Nat.le_refl _)), by rw [growL_length, hlen], fun p hp hto => growL_below _ _ _ _ _ (fun j y hy hj => ?_) hto, ?_, hspnew.kids hkids, fun v hv q => (hold v q hv).kids hkids, ?_⟩
 ·rcases hback j y hy with ⟨rfl, rfl⟩ | ⟨rfl, rfl⟩ | ⟨_, q⟩
  ·exact hto
  ·exact hp j x hx hj
  ·exact hp j y q hj
 ·unfold errs
  rw [growL_kind, hset, List.map_append, List.countP_append, set_kind (y := { x with Kids := x.Kids ++ [(N.length : Int)] }) hx rfl]
  by_cases e : kind = 11
  ·rw [if_pos e]; simp [e]
  ·rw [if_neg e]; simp [e]
 ·have hl : N.length < (growL (N.length + 1) N1 up to).length := by rw [growL_length, hlen]; omega
  refine ⟨_, List.getElem?_eq_getElem hl, ?_⟩
  have h1 := List.getElem?_eq_getElem hl
  obtain ⟨y, q1, _, q3⟩ := growL_get _ _ _ _ _ _ h1
  rw [hnew] at q1; simp only [Option.some.injEq] at q1
  refine ⟨by rw [q3, ← q1], ?_⟩
  have h2 : ((growL (N.length + 1) N1 up to).map (·.Kids))[N.length]? = some [] := by rw [hkids, List.getElem?_map, hnew]; rfl
  rw [List.getElem?_map, h1] at h2
  exact Option.some.inj h2
theorem endOf_le {N : List api_Node} {n : Int} (h : G N n) {p : Int} (hb : Below N p) (hp : 0 ≤ p) (up : Nat) : ∀ e, endOf N up = some e → e ≤ p := by
 intro e he
 unfold endOf at he
 obtain ⟨x, hx, rfl⟩ := Option.map_eq_some_iff.1 he
 have hfrom : x.From ≤ p := by
  rcases Nat.eq_zero_or_pos up with e | e
  ·subst e
   obtain ⟨r, r1, _, r3, _⟩ := h.root
   rw [hx] at r1; simp only [Option.some.injEq] at r1; subst r1; omega
  ·have := hb up x hx e
   have := (h.lies up x hx).2
   omega
 cases hk : x.Kids.getLast? with
 | none => exact hfrom
 | some k =>
  simp only
  obtain ⟨w, q1, q2, q3, _⟩ := (h.lies up x hx).1.mem k (List.mem_of_getLast? hk)
  rw [if_pos (by omega), q3]
  simp only [imax_eq]
  have := hb k.toNat w q3 (by omega)
  omega
theorem endOf_fresh {N : List api_Node} {i : Nat} {z : api_Node} (hz : N[i]? = some z) (hk : z.Kids = []) : ∀ e, endOf N i = some e → e = z.From := by
 intro e he
 unfold endOf at he
 rw [hz] at he
 simp only [Option.map_some, hk, List.getLast?_nil, Option.some.injEq] at he
 exact he.symm
theorem add_ex (F : Nat) (hF : 2500 ≤ F) (r : flow_reader) {n : Int} (h : G r.t_.Nodes n) (hl : r.t_.Nodes.length ≤ 2400) {up : Nat} (hu : up < r.t_.Nodes.length) (hs : Sp r.t_.Nodes up) {kind frm to : Int} (hk : 1 ≤ kind ∧ kind ≤ 11) (hft : frm ≤ to) (ht : to ≤ n) (he : ∀ e, endOf r.t_.Nodes up = some e → e ≤ frm) :
  ∃ N', flow_reader_add F r (up : Int) kind frm to = some ((r.t_.Nodes.length : Int), (⟨r.l_, r.end_, ⟨N'⟩, r.d_⟩ : flow_reader)) ∧ Added r.t_.Nodes N' n up kind frm to := by
 obtain ⟨x, hx, hxt⟩ := h.root0
 have hm : mayAdd r.t_.Nodes (up : Int) kind frm to := ⟨by omega, by omega, hk.1, hk.2, hft, ⟨x, hx, by omega⟩, by
  have hex : ∃ e, endOf r.t_.Nodes up = some e := by unfold endOf; rw [List.getElem?_eq_getElem hu]; exact ⟨_, rfl⟩
  obtain ⟨e, hex⟩ := hex
  exact ⟨e, by rw [Int.toNat_natCast]; exact hex, he _ hex⟩⟩
 refine ⟨addL r.t_.Nodes up kind frm to, ?_, added h hu hs hft ht he⟩
 unfold flow_reader_add
 rw [add_yes F r.t_ _ _ _ _ (h.small (by omega)) (by omega) (by omega) hm]
 rfl
theorem tell_ex (F : Nat) (r : flow_reader) (h : RI r) (code a b : Int) (h0 : 0 ≤ a) (h1 : a < b) (h2 : b ≤ r.end_) (hd : r.d_.length ≤ 100000) : ∃ x, flow_reader_tell F r code a b = some (⟨r.l_, r.end_, r.t_, r.d_ ++ [x]⟩ : flow_reader) ∧ x.Code = code := by
 have := h.e1
 have hn := h.n
 unfold flow_reader_tell
 have ha : a.toNat < r.l_.length := by omega
 have hb : (b - 1).toNat < r.l_.length := by omega
 have hw : w64 (b - 1) = b - 1 := w64_eq (by omega) (by omega)
 rw [if_pos (by omega), List.getElem?_eq_getElem ha]
 simp only [Option.bind_some, hw]
 rw [if_pos (by omega), List.getElem?_eq_getElem hb]
 simp only [Option.bind_some]
 rw [if_pos (by rw [List.length_singleton]; omega)]
 exact ⟨_, rfl, rfl⟩
theorem told_snoc (d : List api_Diag) (x : api_Diag) : told (d ++ [x]) = told d + (if x.Code = 9 then 0 else 1) := by
 unfold told
 rw [List.countP_append]
 by_cases e : x.Code = 9 <;> simp [e]
end Go.Proofs.Ytahcngeimlkcgaa.M
