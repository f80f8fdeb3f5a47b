/- Trees that are put together at their right side: they lie as they must. -/
import Derived.Test.YtahcngeimlkcgaaPA
namespace Go.Proofs.Ytahcngeimlkcgaa.M
open Go Am Sy
set_option linter.unusedVariables false
set_option linter.unusedSimpArgs false
theorem imax_eq (a b : Int) : imax a b = max a b := by
 unfold imax; split <;> omega
def LP (l : List api_Node) (i To : Int) : Int → List Int → Prop
 | _, [] => True
 | e, k :: ks => ∃ y, i < k ∧ 0 ≤ k ∧ k < l.length ∧ l[k.toNat]? = some y ∧ y.Up = i ∧ e ≤ y.From ∧ y.To ≤ To ∧ LP l i To y.To ks
def lenSum (xs : List api_Node) : Nat := (xs.map fun x => x.Kids.length).sum
structure G (N : List api_Node) (n : Int) : Prop where
 root : ∃ x, N[0]? = some x ∧ x.Kind = 1 ∧ x.From = 0 ∧ x.To = n ∧ x.Up = -1
 ups : ∀ (i : Nat) x, N[i]? = some x → i = 0 ∨ (0 ≤ x.Up ∧ x.Up < (i : Int))
 lies : ∀ (i : Nat) x, N[i]? = some x → LP N i x.To x.From x.Kids ∧ x.From ≤ x.To
 nd : ∀ x ∈ N, x.Kids.Nodup
 sum : lenSum N + 1 = N.length
theorem G.new (n : Int) (h0 : 0 ≤ n) : G [⟨1, 0, n, -1, [], false⟩] n where
 root := ⟨_, rfl, rfl, rfl, rfl, rfl⟩
 ups i x hx := by
  cases i with
  | zero => exact .inl rfl
  | succ i => simp at hx
 lies i x hx := by
  cases i with
  | zero => simp at hx; subst hx; exact ⟨trivial, h0⟩
  | succ i => simp at hx
 nd x hx := by simp at hx; subst hx; exact List.nodup_nil
 sum := by simp [lenSum]
theorem lt_of {N : List api_Node} {i : Nat} {x : api_Node} (h : N[i]? = some x) : i < N.length := by
 rcases Nat.lt_or_ge i N.length with q | q
 ·exact q
 ·rw [List.getElem?_eq_none q] at h; cases h
theorem LP.mem {l : List api_Node} {i To : Int} : ∀ {ks : List Int} {e : Int}, LP l i To e ks → ∀ k ∈ ks, ∃ y, i < k ∧ k < l.length ∧ l[k.toNat]? = some y ∧ y.Up = i ∧ y.To ≤ To := by
 intro ks
 induction ks with
 | nil => intro e _ k hk; cases hk
 | cons j ks ih =>
  rintro e ⟨y, h1, h2, h3, h4, h5, h6, h7, h8⟩ k hk
  rcases List.mem_cons.1 hk with rfl | hk
  ·exact ⟨y, h1, h3, h4, h5, h7⟩
  ·exact ih h8 k hk
theorem LP.of {l l' : List api_Node} {i To To' : Int} (hT : To ≤ To') : ∀ {ks : List Int} {e : Int}, LP l i To e ks → (∀ k ∈ ks, ∀ y, l[k.toNat]? = some y → k < l'.length ∧ ∃ y', l'[k.toNat]? = some y' ∧ y'.Up = y.Up ∧ y'.From = y.From ∧ y'.To = y.To) → LP l' i To' e ks := by
 intro ks
 induction ks with
 | nil => intro e _ _; trivial
 | cons k ks ih =>
  rintro e ⟨y, h1, h2, h3, h4, h5, h6, h7, h8⟩ h
  obtain ⟨q1, y', q2, q3, q4, q5⟩ := h k List.mem_cons_self y h4
  exact ⟨y', h1, h2, q1, q2, by rw [q3]; exact h5, by rw [q4]; exact h6, by omega, by rw [q5]; exact ih h8 (fun j hj => h j (List.mem_cons_of_mem _ hj))⟩
theorem LP.last {l l' : List api_Node} {i To To' : Int} (hT : To ≤ To') {c : Int} : ∀ {ks : List Int} {e : Int}, LP l i To e ks → ks.getLast? = some c → ks.Nodup → (∀ k ∈ ks, k ≠ c → ∀ y, l[k.toNat]? = some y → k < l'.length ∧ ∃ y', l'[k.toNat]? = some y' ∧ y'.Up = y.Up ∧ y'.From = y.From ∧ y'.To = y.To) →
  (∀ y, l[c.toNat]? = some y → c < l'.length ∧ ∃ y', l'[c.toNat]? = some y' ∧ y'.Up = y.Up ∧ y'.From = y.From ∧ y'.To ≤ To') → LP l' i To' e ks := by
 intro ks
 induction ks with
 | nil => intro e _ h; simp at h
 | cons k ks ih =>
  rintro e ⟨y, h1, h2, h3, h4, h5, h6, h7, h8⟩ hl hn h hc
  obtain ⟨n1, n2⟩ := List.nodup_cons.1 hn
  cases ks with
  | nil =>
   simp only [List.getLast?_singleton, Option.some.injEq] at hl
   subst hl
   obtain ⟨q1, y', q2, q3, q4, q5⟩ := hc y h4
   exact ⟨y', h1, h2, q1, q2, by rw [q3]; exact h5, by rw [q4]; exact h6, q5, trivial⟩
  | cons j ks =>
   rw [List.getLast?_cons_cons] at hl
   have hne : k ≠ c := fun e => n1 (by rw [e]; exact List.mem_of_getLast? hl)
   obtain ⟨q1, y', q2, q3, q4, q5⟩ := h k List.mem_cons_self hne y h4
   exact ⟨y', h1, h2, q1, q2, by rw [q3]; exact h5, by rw [q4]; exact h6, by omega, by rw [q5]; exact ih h8 hl n2 (fun m hm => h m (List.mem_cons_of_mem _ hm)) hc⟩
theorem LP.snoc {l : List api_Node} {i To : Int} {k : Int} {z : api_Node} (h1 : i < k) (h2 : 0 ≤ k) (h3 : k < l.length) (hz : l[k.toNat]? = some z) (hu : z.Up = i) (ht : z.To ≤ To) : ∀ {ks : List Int} {e : Int}, LP l i To e ks → (ks = [] → e ≤ z.From) → (∀ c, ks.getLast? = some c → ∀ y, l[c.toNat]? = some y → y.To ≤ z.From) → LP l i To e (ks ++ [k]) := by
 intro ks
 induction ks with
 | nil => intro e _ h _; exact ⟨z, h1, h2, h3, hz, hu, h rfl, ht, trivial⟩
 | cons j ks ih =>
  rintro e ⟨y, q1, q2, q3, q4, q5, q6, q7, q8⟩ _ hl
  refine ⟨y, q1, q2, q3, q4, q5, q6, q7, ih q8 (fun e => ?_) (fun c hc => ?_)⟩
  ·subst e; exact hl j rfl y q4
  ·cases ks with
   | nil => simp at hc
   | cons m ks => exact hl c (by rw [List.getLast?_cons_cons]; exact hc)
inductive Sp (N : List api_Node) : Nat → Prop where
 | root : Sp N 0
 | kid {u k : Nat} {x : api_Node} (h : Sp N u) (hx : N[u]? = some x) (hk : x.Kids.getLast? = some (k : Int)) : Sp N k
structure Gx (N : List api_Node) (n : Int) (i : Int) (to : Int) : Prop where
 root : ∃ x, N[0]? = some x ∧ x.Kind = 1 ∧ x.From = 0 ∧ x.To = n ∧ x.Up = -1
 ups : ∀ (j : Nat) x, N[j]? = some x → j = 0 ∨ (0 ≤ x.Up ∧ x.Up < (j : Int))
 lies : ∀ (j : Nat) x, N[j]? = some x → LP N j (if (j : Int) = i then max x.To to else x.To) x.From x.Kids ∧ x.From ≤ x.To
 nd : ∀ x ∈ N, x.Kids.Nodup
 sum : lenSum N + 1 = N.length
theorem lenSum_kids : ∀ {a b : List api_Node}, a.map (·.Kids) = b.map (·.Kids) → lenSum a = lenSum b := by
 intro a b h
 have : ∀ c : List api_Node, lenSum c = ((c.map (·.Kids)).map List.length).sum := fun c => by simp [lenSum, Function.comp_def]
 rw [this, this, h]
theorem set_kids {N : List api_Node} {i : Nat} {x y : api_Node} (hx : N[i]? = some x) (hk : y.Kids = x.Kids) : (N.set i y).map (·.Kids) = N.map (·.Kids) := by
 rw [List.map_set, hk]
 have hi := lt_of hx
 have hi' : i < (N.map (·.Kids)).length := by simpa using hi
 have : (N.map (·.Kids))[i] = x.Kids := by
  rw [List.getElem_map]
  have := List.getElem?_eq_getElem hi
  rw [hx] at this
  rw [← Option.some.inj this]
 rw [← this]; exact List.set_getElem_self hi'
theorem Sp.kids {N N' : List api_Node} (h : N'.map (·.Kids) = N.map (·.Kids)) {u : Nat} (hs : Sp N u) : Sp N' u := by
 induction hs with
 | root => exact .root
 | kid h1 hx hk ih =>
  rename_i u k x
  have : (N'.map (·.Kids))[u]? = some x.Kids := by rw [h, List.getElem?_map, hx]; rfl
  rw [List.getElem?_map] at this
  obtain ⟨y, hy, e⟩ := Option.map_eq_some_iff.1 this
  exact .kid ih hy (by rw [e]; exact hk)
theorem G.gx {N : List api_Node} {n : Int} (h : G N n) (i to : Int) : Gx N n i to where
 root := h.root
 ups := h.ups
 lies j x hx := ⟨(h.lies j x hx).1.of (by split <;> omega) (fun k hk y hy => ⟨by obtain ⟨_, _, q, _⟩ := (h.lies j x hx).1.mem k hk; exact q, y, hy, rfl, rfl, rfl⟩), (h.lies j x hx).2⟩
 nd := h.nd
 sum := h.sum
theorem Gx.none {N : List api_Node} {n i to : Int} (h : Gx N n i to) (hi : i < 0) : G N n where
 root := h.root
 ups := h.ups
 lies j x hx := by have := h.lies j x hx; rw [if_neg (by omega)] at this; exact this
 nd := h.nd
 sum := h.sum
theorem Gx.step {N : List api_Node} {n to : Int} {i : Nat} (h : Gx N n i to) (hs : Sp N i) {x : api_Node} (hx : N[i]? = some x) (ht : i = 0 → to ≤ n) : Gx (N.set i (toMax x to)) n x.Up to ∧ (0 ≤ x.Up → Sp N x.Up.toNat) := by
 have hi := lt_of hx
 have hat : ∀ (k : Nat) (y : api_Node), N[k]? = some y → ∃ y', (N.set i (toMax x to))[k]? = some y' ∧ y'.Up = y.Up ∧ y'.From = y.From ∧ y'.Kids = y.Kids ∧ y'.Kind = y.Kind ∧ (k ≠ i → y'.To = y.To) := by
  intro k y hy
  by_cases e : k = i
  ·subst e
   rw [hx] at hy; simp only [Option.some.injEq] at hy; subst hy
   exact ⟨_, List.getElem?_set_self hi, rfl, rfl, rfl, rfl, fun q => absurd rfl q⟩
  ·exact ⟨y, by rw [List.getElem?_set_ne (Ne.symm e)]; exact hy, rfl, rfl, rfl, rfl, fun _ => rfl⟩
 have hself : (N.set i (toMax x to))[i]? = some (toMax x to) := List.getElem?_set_self hi
 have hup := h.ups i x hx
 have hspine : 0 ≤ x.Up → Sp N x.Up.toNat ∧ ∃ p, N[x.Up.toNat]? = some p ∧ p.Kids.getLast? = some (i : Int) := by
  intro h0
  cases hs with
  | root =>
   obtain ⟨r, r1, _, _, _, r2⟩ := h.root
   rw [hx] at r1; simp only [Option.some.injEq] at r1; subst r1; omega
  | kid h1 hp hk =>
   rename_i u p
   obtain ⟨y, _, _, q3, q4, _⟩ := (h.lies u p hp).1.mem i (List.mem_of_getLast? hk)
   rw [Int.toNat_natCast, hx] at q3
   simp only [Option.some.injEq] at q3
   subst q3
   rw [q4, Int.toNat_natCast]
   exact ⟨h1, p, hp, hk⟩
 refine ⟨⟨?_, fun j y hy => ?_, fun j y hy => ?_, fun y hy => ?_, ?_⟩, fun h0 => (hspine h0).1⟩
 ·obtain ⟨r, r1, r2, r3, r4, r5⟩ := h.root
  by_cases e : i = 0
  ·subst e
   rw [hx] at r1; simp only [Option.some.injEq] at r1; subst r1
   refine ⟨_, hself, r2, r3, ?_, r5⟩
   have := ht rfl
   simp only [toMax, imax_eq]; omega
  ·exact ⟨r, by rw [List.getElem?_set_ne e]; exact r1, r2, r3, r4, r5⟩
 ·by_cases e : j = i
  ·subst e
   rw [hself] at hy; simp only [Option.some.injEq] at hy; subst hy
   exact h.ups j x hx
  ·rw [List.getElem?_set_ne (Ne.symm e)] at hy; exact h.ups j y hy
 ·have hlen : ((N.set i (toMax x to)).length : Int) = N.length := by rw [List.length_set]
  by_cases e : j = i
  ·subst e
   rw [hself] at hy; simp only [Option.some.injEq] at hy; subst hy
   have h1 := h.lies j x hx
   rw [if_pos rfl] at h1
   refine ⟨?_, by have := h1.2; simp only [toMax, imax_eq]; omega⟩
   have hne : (j : Int) ≠ x.Up := by
    rcases hup with q | q
    ·obtain ⟨r, r1, _, _, _, r2⟩ := h.root
     rw [q] at hx; rw [hx] at r1; simp only [Option.some.injEq] at r1; subst r1; omega
    ·omega
   rw [if_neg hne]
   have ht : (toMax x to).To = max x.To to := by simp only [toMax, imax_eq]
   rw [ht]
   refine h1.1.of (Int.le_refl _) (fun k hk y hy => ?_)
   obtain ⟨z, q1, q2, _⟩ := h1.1.mem k hk
   obtain ⟨y', z1, z2, z3, _, _, z4⟩ := hat k.toNat y hy
   exact ⟨by omega, y', z1, z2, z3, z4 (by omega)⟩
  ·rw [List.getElem?_set_ne (Ne.symm e)] at hy
   have h1 := h.lies j y hy
   rw [if_neg (by omega)] at h1
   refine ⟨?_, h1.2⟩
   by_cases ej : (j : Int) = x.Up
   ·rw [if_pos ej]
    obtain ⟨_, p, hp, hk⟩ := hspine (by omega)
    rw [← ej, Int.toNat_natCast, hy] at hp
    simp only [Option.some.injEq] at hp
    subst hp
    refine h1.1.last (by omega) hk (h.nd y (List.mem_of_getElem? hy)) (fun k hk2 hne z hz => ?_) (fun z hz => ?_)
    ·obtain ⟨w, q1, q2, _⟩ := h1.1.mem k hk2
     obtain ⟨y', z1, z2, z3, _, _, z4⟩ := hat k.toNat z hz
     exact ⟨by omega, y', z1, z2, z3, z4 (by omega)⟩
    ·obtain ⟨w, q1, q2, q3, q4, q5⟩ := h1.1.mem (i : Int) (List.mem_of_getLast? hk)
     rw [Int.toNat_natCast, hx] at hz q3
     simp only [Option.some.injEq] at hz q3
     subst hz; subst q3
     refine ⟨by omega, toMax x to, by rw [Int.toNat_natCast]; exact hself, rfl, rfl, ?_⟩
     simp only [toMax, imax_eq]; omega
   ·rw [if_neg ej]
    refine h1.1.of (Int.le_refl _) (fun k hk z hz => ?_)
    obtain ⟨w, q1, q2, q3, q4, _⟩ := h1.1.mem k hk
    obtain ⟨y', z1, z2, z3, _, _, z4⟩ := hat k.toNat z hz
    refine ⟨by omega, y', z1, z2, z3, z4 (fun e2 => ?_)⟩
    rw [e2, hx] at q3; simp only [Option.some.injEq] at q3
    subst q3; exact ej q4.symm
 ·obtain ⟨j, hj⟩ := List.getElem?_of_mem hy
  by_cases e : j = i
  ·subst e
   rw [hself] at hj; simp only [Option.some.injEq] at hj; subst hj
   exact h.nd x (List.mem_of_getElem? hx)
  ·rw [List.getElem?_set_ne (Ne.symm e)] at hj; exact h.nd y (List.mem_of_getElem? hj)
 ·rw [List.length_set, lenSum_kids (set_kids (y := toMax x to) hx rfl)]; exact h.sum
theorem Gx.grow {n to : Int} (ht : to ≤ n) : ∀ (k : Nat) (N : List api_Node) (i : Int), Gx N n i to → i < k → i < N.length → (0 ≤ i → Sp N i.toNat) → G (growL k N i to) n := by
 intro k
 induction k with
 | zero => intro N i h h1 _ _; exact h.none (by omega)
 | succ k ih =>
  intro N i h h1 h2 hs
  simp only [growL]
  by_cases h0 : 0 ≤ i
  ·rw [if_pos h0]
   have hil : i.toNat < N.length := by omega
   have hx : N[i.toNat]? = some N[i.toNat] := List.getElem?_eq_getElem hil
   rw [hx]
   simp only
   generalize N[i.toNat] = x at *
   have e : ((i.toNat : Nat) : Int) = i := by omega
   obtain ⟨q1, q2⟩ := Gx.step (i := i.toNat) (by rw [e]; exact h) (hs h0) hx (fun _ => ht)
   have hup := h.ups i.toNat x hx
   have hroot : i.toNat = 0 → x.Up = -1 := fun z => by
    obtain ⟨r, r1, _, _, _, r2⟩ := h.root
    rw [z] at hx; rw [hx] at r1; simp only [Option.some.injEq] at r1; subst r1; exact r2
   have hlt : x.Up < i := by
    rcases hup with q | q
    ·have := hroot q; omega
    ·omega
   exact ih _ _ q1 (by omega) (by rw [List.length_set]; omega) (fun z => (q2 z).kids (set_kids (y := toMax x to) hx rfl))
  ·rw [if_neg h0]; exact h.none (by omega)
theorem growL_kids : ∀ (k : Nat) (N : List api_Node) (i to : Int), (growL k N i to).map (·.Kids) = N.map (·.Kids) := by
 intro k
 induction k with
 | zero => intro N i to; rfl
 | succ k ih =>
  intro N i to
  simp only [growL]
  split
  ·split
   ·rename_i x hx
    rw [ih, set_kids (y := toMax x to) hx rfl]
   ·rfl
  ·rfl
def Below (N : List api_Node) (p : Int) : Prop := ∀ (i : Nat) x, N[i]? = some x → 0 < i → x.To ≤ p
theorem growL_below : ∀ (k : Nat) (N : List api_Node) (i to p : Int), Below N p → to ≤ p → Below (growL k N i to) p := by
 intro k
 induction k with
 | zero => intro N i to p h _; exact h
 | succ k ih =>
  intro N i to p h ht
  simp only [growL]
  split
  ·split
   ·rename_i x hx
    refine ih _ _ _ _ (fun j y hy hj => ?_) ht
    by_cases e : j = i.toNat
    ·rw [e, List.getElem?_set_self (lt_of hx)] at hy
     simp only [Option.some.injEq] at hy
     subst hy
     have := h j x (by rw [e]; exact hx) hj
     simp only [toMax, imax_eq]; omega
    ·rw [List.getElem?_set_ne (Ne.symm e)] at hy; exact h j y hy hj
   ·exact h
  ·exact h
theorem growL_get : ∀ (k : Nat) (N : List api_Node) (i to : Int) (j : Nat) (x' : api_Node), (growL k N i to)[j]? = some x' → ∃ x, N[j]? = some x ∧ x'.Kind = x.Kind ∧ x'.From = x.From := by
 intro k
 induction k with
 | zero => intro N i to j x' h; exact ⟨x', h, rfl, rfl⟩
 | succ k ih =>
  intro N i to j x' h
  simp only [growL] at h
  split at h
  ·split at h
   ·rename_i x hx
    obtain ⟨y, q1, q2, q3⟩ := ih _ _ _ _ _ h
    by_cases e : j = i.toNat
    ·rw [e, List.getElem?_set_self (lt_of hx)] at q1
     simp only [Option.some.injEq] at q1
     subst q1
     exact ⟨x, by rw [e]; exact hx, q2, q3⟩
    ·rw [List.getElem?_set_ne (Ne.symm e)] at q1; exact ⟨y, q1, q2, q3⟩
   ·exact ⟨x', h, rfl, rfl⟩
  ·exact ⟨x', h, rfl, rfl⟩
end Go.Proofs.Ytahcngeimlkcgaa.M
