/- Memory as data: blocks that stay ('zone'), rows of typed elements, blocks that are ours ('items'), the state of a run. -/
import Derived.Test.YtahcngeimlkcgaaSyA
namespace Go.Proofs.Ytahcngeimlkcgaa.Sy
open Go Am
set_option linter.unusedVariables false
set_option linter.unusedSectionVars false
set_option linter.unusedSimpArgs false
abbrev Zn := Nat → Option (List Value)
def Zle (Z Z' : Zn) : Prop := ∀ b cs, Z b = some cs → Z' b = some cs
theorem Zle.refl (Z : Zn) : Zle Z Z := fun _ _ h => h
theorem Zle.trans {A B C : Zn} (h : Zle A B) (k : Zle B C) : Zle A C := fun _ _ q => k _ _ (h _ _ q)
class Cell (α : Type) where
 size : Nat
 rc : Zn → List Value → α → Prop
 len : ∀ {Z cs x}, rc Z cs x → cs.length = size
 mono : ∀ {Z Z' cs x}, Zle Z Z' → rc Z cs x → rc Z' cs x
 one : ∀ {Z cs x}, rc Z cs x → cs.all Value.oneCell' = true
 pos : 0 < size
open Cell (rc)
abbrev csz (α : Type) [Cell α] : Nat := Cell.size α
section
variable {α : Type} [Cell α] {Z Z' : Zn}
def RCs (Z : Zn) : List Value → List α → Prop
 | cells, [] => cells = []
 | cells, x :: xs => ∃ cs rest, cells = cs ++ rest ∧ rc Z cs x ∧ RCs Z rest xs
theorem RCs.length {xs : List α} : ∀ {cells}, RCs Z cells xs → cells.length = xs.length * csz α := by
 induction xs with
 | nil => intro cells h; simp only [RCs] at h; subst h; simp
 | cons x xs ih =>
  rintro cells ⟨cs, rest, rfl, h1, h2⟩
  rw [List.length_append, Cell.len h1, ih h2, List.length_cons, Nat.add_mul, Nat.one_mul, Nat.add_comm]
theorem RCs.mono (hz : Zle Z Z') {xs : List α} : ∀ {cells}, RCs Z cells xs → RCs Z' cells xs := by
 induction xs with
 | nil => intro cells h; exact h
 | cons x xs ih =>
  rintro cells ⟨cs, rest, rfl, h1, h2⟩
  exact ⟨cs, rest, rfl, Cell.mono hz h1, ih h2⟩
theorem RCs.one {xs : List α} : ∀ {cells}, RCs Z cells xs → cells.all Value.oneCell' = true := by
 induction xs with
 | nil => intro cells h; simp only [RCs] at h; subst h; rfl
 | cons x xs ih =>
  rintro cells ⟨cs, rest, rfl, h1, h2⟩
  rw [List.all_append, Cell.one h1, ih h2]; rfl
theorem RCs.append {xs ys : List α} : ∀ {c1 c2}, RCs Z c1 xs → RCs Z c2 ys → RCs Z (c1 ++ c2) (xs ++ ys) := by
 induction xs with
 | nil => intro c1 c2 h1 h2; simp only [RCs] at h1; subst h1; exact h2
 | cons x xs ih =>
  rintro c1 c2 ⟨cs, rest, rfl, h1, h2⟩ h3
  exact ⟨cs, rest ++ c2, by rw [List.append_assoc], h1, ih h2 h3⟩
theorem RCs.single {cs : List Value} {x : α} (h : rc Z cs x) : RCs Z cs [x] := ⟨cs, [], by simp, h, rfl⟩
theorem RCs.cons {cs rest : List Value} {x : α} {xs : List α} (h : rc Z cs x) (h2 : RCs Z rest xs) : RCs Z (cs ++ rest) (x :: xs) := ⟨cs, rest, rfl, h, h2⟩
theorem RCs.nil : RCs Z [] ([] : List α) := rfl
theorem RCs.drop {xs : List α} : ∀ {cells} (k : Nat), RCs Z cells xs → RCs Z (cells.drop (k * csz α)) (xs.drop k) := by
 induction xs with
 | nil => intro cells k h; simp only [RCs] at h; subst h; simp [RCs]
 | cons x xs ih =>
  intro cells k h
  cases k with
  | zero => simpa using h
  | succ k =>
   obtain ⟨cs, rest, rfl, h1, h2⟩ := h
   have hl := Cell.len h1
   rw [Nat.succ_mul, List.drop_succ_cons, Nat.add_comm, List.drop_append, List.drop_eq_nil_of_le (by show cs.length ≤ Cell.size α + k * Cell.size α; omega)]
   have : csz α + k * csz α - cs.length = k * csz α := by show Cell.size α + k * Cell.size α - cs.length = k * Cell.size α; omega
   rw [this]
   exact ih k h2
theorem RCs.take {xs : List α} : ∀ {cells} (k : Nat), RCs Z cells xs → RCs Z (cells.take (k * csz α)) (xs.take k) := by
 induction xs with
 | nil => intro cells k h; simp only [RCs] at h; subst h; simp [RCs]
 | cons x xs ih =>
  intro cells k h
  cases k with
  | zero => simp [RCs]
  | succ k =>
   obtain ⟨cs, rest, rfl, h1, h2⟩ := h
   have hl := Cell.len h1
   rw [Nat.succ_mul, List.take_succ_cons, Nat.add_comm, List.take_append, List.take_of_length_le (by show cs.length ≤ Cell.size α + k * Cell.size α; omega)]
   have : csz α + k * csz α - cs.length = k * csz α := by show Cell.size α + k * Cell.size α - cs.length = k * Cell.size α; omega
   rw [this]
   exact ⟨cs, _, rfl, h1, ih k h2⟩
theorem RCs.elem {xs : List α} : ∀ {cells} {i : Nat} {x : α}, RCs Z cells xs → xs[i]? = some x → ∃ cs, rc Z cs x ∧ (cells.drop (i * csz α)).take (csz α) = cs := by
 induction xs with
 | nil => intro cells i x h hx; simp at hx
 | cons y xs ih =>
  rintro cells i x ⟨cs, rest, rfl, h1, h2⟩ hx
  have hl : cs.length = csz α := Cell.len h1
  cases i with
  | zero =>
   simp at hx; subst hx
   refine ⟨cs, h1, ?_⟩
   simp [← hl]
  | succ i =>
   simp only [List.getElem?_cons_succ] at hx
   obtain ⟨cs', q1, q2⟩ := ih h2 hx
   refine ⟨cs', q1, ?_⟩
   rw [← q2, Nat.succ_mul, Nat.add_comm, List.drop_append, List.drop_eq_nil_of_le (by omega), List.nil_append, ← hl]
   congr 2
   omega
theorem RCs.upd {xs : List α} : ∀ {cells} {i : Nat} {x x' : α} {cs'}, RCs Z cells xs → xs[i]? = some x → rc Z cs' x' → RCs Z (cells.take (i * csz α) ++ cs' ++ cells.drop (i * csz α + csz α)) (xs.set i x') := by
 intro cells i x x' cs' h hx h'
 have hi : i < xs.length := by
  rcases Nat.lt_or_ge i xs.length with q | q
  ·exact q
  ·rw [List.getElem?_eq_none q] at hx; cases hx
 have h1 := h.take i
 have h2 := h.drop (i + 1)
 have he : xs.set i x' = xs.take i ++ [x'] ++ xs.drop (i + 1) := by
  rw [List.set_eq_take_append_cons_drop, if_pos hi]; simp
 rw [he]
 have e2 : i * csz α + csz α = (i + 1) * csz α := by rw [Nat.add_mul, Nat.one_mul]
 rw [e2]
 exact (h1.append (RCs.single h')).append h2
def RS (Z : Zn) (v : Value) (xs : List α) : Prop :=
 ∃ a c, v = .slice a xs.length c ∧ xs.length ≤ c ∧ match a with
  | none => xs = []
  | some a => a.spot = none ∧ ∃ all, Z a.block = some all ∧ a.off + xs.length * csz α ≤ all.length ∧ RCs Z ((all.drop a.off).take (xs.length * csz α)) xs
theorem RS.mono (hz : Zle Z Z') {v : Value} {xs : List α} (h : RS Z v xs) : RS Z' v xs := by
 obtain ⟨a, c, h1, h2, h3⟩ := h
 refine ⟨a, c, h1, h2, ?_⟩
 cases a with
 | none => exact h3
 | some a =>
  obtain ⟨h4, all, h5, h6, h7⟩ := h3
  exact ⟨h4, all, hz _ _ h5, h6, h7.mono hz⟩
end
inductive Itm where
 | blk (b : Nat) (cells : List Value)
 | gs (v : Value) (cells : List Value) (s : Nat)
 | grp (bs : List (Nat × List Value × Nat))
namespace Itm
def ids : Itm → List Nat
 | .blk b _ => [b]
 | .gs v _ _ => match v with | .slice (some a) _ _ => [a.block] | _ => []
 | .grp bs => bs.map (·.1)
def ok (h : AH) : Itm → Prop
 | .blk b cells => ∃ z, h.blk b = some ⟨cells, true, z⟩
 | .gs v cells s => (v = .slice none 0 0 ∧ cells = []) ∨ ∃ b n c, v = .slice (some ⟨b, 0, none⟩) n c ∧ n * s = cells.length ∧ (c = n ∨ c = n + 1) ∧ h.blk b = some ⟨cells, true, s⟩
 | .grp bs => (bs.map (·.1)).Nodup ∧ ∀ x ∈ bs, h.blk x.1 = some ⟨x.2.1, true, x.2.2⟩
theorem ok_live {h : AH} {p : Itm} (hp : p.ok h) {b : Nat} (hb : b ∈ p.ids) : ∃ B, h.blk b = some B ∧ B.own = true := by
 cases p with
 | blk c cells => simp only [ids, List.mem_singleton] at hb; subst hb; obtain ⟨z, hz⟩ := hp; exact ⟨_, hz, rfl⟩
 | gs v cells s =>
  rcases hp with ⟨rfl, rfl⟩ | ⟨c, n, k, rfl, h1, h2, h3⟩
  ·simp [ids] at hb
  ·simp only [ids, List.mem_singleton] at hb; subst hb; exact ⟨_, h3, rfl⟩
 | grp bs =>
  simp only [ids, List.mem_map] at hb
  obtain ⟨x, hx, rfl⟩ := hb
  exact ⟨_, hp.2 x hx, rfl⟩
theorem ok_same {h h' : AH} {p : Itm} (hp : p.ok h) (hs : ∀ b ∈ p.ids, h'.blk b = h.blk b) : p.ok h' := by
 cases p with
 | blk c cells => obtain ⟨z, hz⟩ := hp; exact ⟨z, by rw [hs c (by simp [ids])]; exact hz⟩
 | gs v cells s =>
  rcases hp with ⟨rfl, rfl⟩ | ⟨c, n, k, rfl, h1, h2, h3⟩
  ·exact .inl ⟨rfl, rfl⟩
  ·exact .inr ⟨c, n, k, rfl, h1, h2, by rw [hs c (by simp [ids])]; exact h3⟩
 | grp bs => exact ⟨hp.1, fun x hx => by rw [hs x.1 (by simp only [ids, List.mem_map]; exact ⟨x, hx, rfl⟩)]; exact hp.2 x hx⟩
end Itm
def idsL (L : List Itm) : List Nat := L.flatMap Itm.ids
theorem mem_idsL {L : List Itm} {b : Nat} : b ∈ idsL L ↔ ∃ p ∈ L, b ∈ p.ids := by simp [idsL]
structure Inv (Z : Zn) (h : AH) : Prop where
 zin : ∀ b cs, Z b = some cs → ∃ B, h.blk b = some B ∧ B.cells = cs
 liv : ∀ b, h.blk b ≠ none → b < h.next
structure Pre (Z : Zn) (h : AH) (L : List Itm) : Prop extends Inv Z h where
 ok : ∀ p ∈ L, p.ok h
 dj : L.Pairwise (fun p q => ∀ b ∈ p.ids, b ∉ q.ids)
 dz : ∀ p ∈ L, ∀ b ∈ p.ids, Z b = none
structure St (h0 : AH) (D : List Nat) (Z0 : Zn) (R : Nat × Nat) (Z : Zn) (h : AH) (L : List Itm) : Prop extends Pre Z h L where
 frm : ∀ b, b < h0.next → b ∉ D → h.blk b = h0.blk b
 nxt : h0.next ≤ h.next
 new : ∀ p ∈ L, ∀ b ∈ p.ids, b ∈ D ∨ h0.next ≤ b
 low : ∀ x, x ≤ h0.low → x ≤ h0.next → (∀ d ∈ D, x ≤ d) → x ≤ h.low
 zle : Zle Z0 Z
 zfr : ∀ b, Z b ≠ none → Z0 b ≠ none ∨ b ∈ D ∨ h0.next ≤ b
 rsv : ∀ b, R.1 ≤ b → b < R.2 → h.blk b = none
 rlt : R.2 ≤ h.next
 rge : h0.next ≤ R.1 ∨ R.2 = 0
section
variable {h0 h h' : AH} {D : List Nat} {Z0 Z Z' : Zn} {R : Nat × Nat} {L : List Itm} {p q : Itm} {i : Nat}
theorem Inv.znone (hI : Inv Z h) {b : Nat} (hb : h.blk b = none) : Z b = none := by
 cases hz : Z b with
 | none => rfl
 | some cs => obtain ⟨B, h1, _⟩ := hI.zin b cs hz; rw [hb] at h1; cases h1
theorem Pre.lt (hS : Pre Z h L) (hp : p ∈ L) {b : Nat} (hb : b ∈ p.ids) : b < h.next := by
 obtain ⟨B, h1, _⟩ := Itm.ok_live (hS.ok p hp) hb
 exact hS.liv b (by rw [h1]; simp)
theorem Pre.notin (hS : Pre Z h L) (hp : p ∈ L) {b : Nat} (hb : h.blk b = none) : b ∉ p.ids := fun q => by
 obtain ⟨B, h1, _⟩ := Itm.ok_live (hS.ok p hp) q
 rw [hb] at h1; cases h1
theorem St.pre (hS : St h0 D Z0 R Z h L) : Pre Z h L := hS.toPre
theorem St.inv (hS : St h0 D Z0 R Z h L) : Inv Z h := hS.toPre.toInv
theorem St.add (hS : St h0 D Z0 R Z h L) (q : Itm) (hsame : ∀ b, b ∉ q.ids → b < h.next → h'.blk b = h.blk b) (hq : q.ok h') (hqi : ∀ b ∈ q.ids, h.blk b = none ∧ h0.next ≤ b ∧ (R.2 ≤ b ∨ b < R.1)) (hn : h.next ≤ h'.next)
  (hliv : ∀ b, h'.blk b ≠ none → b < h'.next) (hlow : ∀ x, x ≤ h.low → x ≤ h'.low) : St h0 D Z0 R Z h' (q :: L) where
 zin b cs hz := by
  obtain ⟨B, h1, h2⟩ := hS.zin b cs hz
  refine ⟨B, ?_, h2⟩
  rw [hsame b (fun hb => by rw [(hqi b hb).1] at h1; cases h1) (hS.liv b (by rw [h1]; simp))]
  exact h1
 liv := hliv
 ok p hp := by
  rcases List.mem_cons.1 hp with rfl | hp
  ·exact hq
  ·exact Itm.ok_same (hS.ok p hp) fun b hb => hsame b (fun hb' => hS.toPre.notin hp (hqi b hb').1 hb) (hS.toPre.lt hp hb)
 dj := by
  refine List.pairwise_cons.2 ⟨fun p hp b hb => hS.toPre.notin hp (hqi b hb).1, hS.dj⟩
 dz p hp b hb := by
  rcases List.mem_cons.1 hp with rfl | hp
  ·exact hS.toInv.znone (hqi b hb).1
  ·exact hS.dz p hp b hb
 frm b hb hd := by
  rw [hsame b (fun q => by have := (hqi b q).2.1; omega) (Nat.lt_of_lt_of_le hb hS.nxt)]
  exact hS.frm b hb hd
 nxt := Nat.le_trans hS.nxt hn
 new p hp b hb := by
  rcases List.mem_cons.1 hp with rfl | hp
  ·exact .inr (hqi b hb).2.1
  ·exact hS.new p hp b hb
 low x h1 h2 h3 := hlow x (hS.low x h1 h2 h3)
 zle := hS.zle
 zfr := hS.zfr
 rsv b h1 h2 := by
  rw [hsame b (fun q => by have := (hqi b q).2.2; omega) (Nat.lt_of_lt_of_le h2 hS.rlt)]
  exact hS.rsv b h1 h2
 rlt := Nat.le_trans hS.rlt hn
 rge := hS.rge
theorem St.alloc (hS : St h0 D Z0 R Z h L) (cs : List Value) (z : Nat) (q : Itm) (hq : q.ok (h.alloc cs z)) (hqi : q.ids = [h.next]) : St h0 D Z0 R Z (h.alloc cs z) (q :: L) := by
 refine hS.add q (fun b hb hlt => by rw [AH.blk_alloc, if_neg (by omega)]) hq (fun b hb => ?_) (Nat.le_succ _) (fun b hb => ?_) (fun x hx => hx)
 ·rw [hqi, List.mem_singleton] at hb
  subst hb
  refine ⟨?_, hS.nxt, .inl hS.rlt⟩
  cases hn : h.blk h.next with
  | none => rfl
  | some B => exact absurd (hS.liv h.next (by rw [hn]; simp)) (Nat.lt_irrefl _)
 ·rw [AH.blk_alloc] at hb
  rw [AH.next_alloc]
  by_cases e : b = h.next
  ·omega
  ·rw [if_neg e] at hb; have := hS.liv b hb; omega
theorem St.step (hS : St h0 D Z0 R Z h L) (hi : L[i]? = some p) (q : Itm) (hsame : ∀ b, b ∉ p.ids → b < h.next → h'.blk b = h.blk b) (hq : q.ok h') (hqi : ∀ b ∈ q.ids, b ∈ p.ids ∨ h.next ≤ b) (hn : h.next ≤ h'.next)
  (hliv : ∀ b, h'.blk b ≠ none → b < h'.next) (hlow : ∀ x, x ≤ h.low → (∀ d ∈ p.ids, x ≤ d) → x ≤ h'.low) : St h0 D Z0 R Z h' (L.set i q) := by
 have hp : p ∈ L := List.mem_of_getElem? hi
 have hset : ∀ x ∈ L.set i q, x = q ∨ (x ∈ L ∧ ∀ b ∈ x.ids, b ∉ p.ids) := by
  intro x hx
  obtain ⟨j, hj⟩ := List.getElem?_of_mem hx
  rw [List.getElem?_set] at hj
  split at hj
  ·split at hj
   ·exact .inl (Option.some.inj hj).symm
   ·cases hj
  ·rename_i hne
   refine .inr ⟨List.mem_of_getElem? hj, ?_⟩
   have hpw := List.pairwise_iff_getElem.1 hS.dj
   obtain ⟨hi1, hi2⟩ := List.getElem?_eq_some_iff.1 hi
   obtain ⟨hj1, hj2⟩ := List.getElem?_eq_some_iff.1 hj
   rcases Nat.lt_or_ge i j with hlt | hge
   ·have := hpw i j hi1 hj1 hlt
    rw [hi2, hj2] at this
    exact fun b hb hb' => this b hb' hb
   ·have := hpw j i hj1 hi1 (by omega)
    rw [hi2, hj2] at this
    exact this
 have hqn : ∀ x ∈ L, (∀ b ∈ x.ids, b ∉ p.ids) → ∀ b ∈ q.ids, b ∉ x.ids := fun x hx hxp b hb hbx => by
  rcases hqi b hb with h1 | h1
  ·exact hxp b hbx h1
  ·have := hS.toPre.lt hx hbx; omega
 exact {
  zin := fun b cs hz => by
   obtain ⟨B, h1, h2⟩ := hS.zin b cs hz
   refine ⟨B, ?_, h2⟩
   rw [hsame b (fun hb => by rw [hS.dz p hp b hb] at hz; cases hz) (hS.liv b (by rw [h1]; simp))]
   exact h1
  liv := hliv
  ok := fun x hx => by
   rcases hset x hx with rfl | ⟨hx, hxp⟩
   ·exact hq
   ·exact Itm.ok_same (hS.ok x hx) fun b hb => hsame b (hxp b hb) (hS.toPre.lt hx hb)
  dj := by
   rw [List.pairwise_iff_getElem]
   intro j k hj hk hlt
   have hpw := List.pairwise_iff_getElem.1 hS.dj
   obtain ⟨hi1, hi2⟩ := List.getElem?_eq_some_iff.1 hi
   rw [List.length_set] at hj hk
   rw [List.getElem_set, List.getElem_set]
   by_cases e1 : i = j
   ·rw [if_pos e1, if_neg (by omega)]
    subst e1
    refine hqn _ (List.getElem_mem hk) ?_
    have := hpw i k hi1 hk hlt
    rw [hi2] at this
    exact fun b hb hb' => this b hb' hb
   ·rw [if_neg e1]
    by_cases e2 : i = k
    ·rw [if_pos e2]
     subst e2
     have := hpw j i hj hi1 hlt
     rw [hi2] at this
     exact fun b hb hb' => hqn _ (List.getElem_mem hj) this b hb' hb
    ·rw [if_neg e2]; exact hpw j k hj hk hlt
  dz := fun x hx b hb => by
   rcases hset x hx with rfl | ⟨hx, hxp⟩
   ·rcases hqi b hb with h1 | h1
    ·exact hS.dz p hp b h1
    ·refine hS.toInv.znone ?_
     cases hn : h.blk b with
     | none => rfl
     | some B => have := hS.liv b (by rw [hn]; simp); omega
   ·exact hS.dz x hx b hb
  frm := fun b hb hd => by
   rw [hsame b (fun hbp => by rcases hS.new p hp b hbp with h1 | h1 <;> first | exact hd h1 | omega) (Nat.lt_of_lt_of_le hb hS.nxt)]
   exact hS.frm b hb hd
  nxt := Nat.le_trans hS.nxt hn
  new := fun x hx b hb => by
   rcases hset x hx with rfl | ⟨hx, hxp⟩
   ·rcases hqi b hb with h1 | h1
    ·exact hS.new p hp b h1
    ·exact .inr (Nat.le_trans hS.nxt h1)
   ·exact hS.new x hx b hb
  low := fun x h1 h2 h3 => hlow x (hS.low x h1 h2 h3) fun d hd => by
   rcases hS.new p hp d hd with q1 | q1
   ·exact h3 d q1
   ·omega
  zle := hS.zle
  zfr := hS.zfr
  rsv := fun b h1 h2 => by
   rw [hsame b (hS.toPre.notin hp (hS.rsv b h1 h2)) (Nat.lt_of_lt_of_le h2 hS.rlt)]
   exact hS.rsv b h1 h2
  rlt := Nat.le_trans hS.rlt hn
  rge := hS.rge }
theorem perm_front {α : Type} : ∀ (L : List α) (i : Nat) (p : α), L[i]? = some p → L.Perm (p :: L.eraseIdx i) := by
 intro L
 induction L with
 | nil => intro i p h; simp at h
 | cons x L ih =>
  intro i p h
  cases i with
  | zero => simp at h; subst h; simp
  | succ i =>
   simp only [List.getElem?_cons_succ] at h
   simp only [List.eraseIdx_cons_succ]
   exact ((ih i p h).cons x).trans (List.Perm.swap p x _)
theorem St.front (hS : St h0 D Z0 R Z h L) (i : Nat) (hi : L[i]? = some p) : St h0 D Z0 R Z h (p :: L.eraseIdx i) := by
 have hperm : L.Perm (p :: L.eraseIdx i) := perm_front L i p hi
 have hmem : ∀ x, x ∈ p :: L.eraseIdx i → x ∈ L := fun x hx => hperm.mem_iff.2 hx
 exact { hS with
  ok := fun x hx => hS.ok x (hmem x hx)
  dj := (hperm.pairwise_iff (fun {a b} hab c hc hc' => hab c hc' hc)).1 hS.dj
  dz := fun x hx => hS.dz x (hmem x hx)
  new := fun x hx => hS.new x (hmem x hx) }
theorem St.tail (hS : St h0 D Z0 R Z h (p :: L)) : St h0 D Z0 R Z h L :=
 { hS with
  ok := fun x hx => hS.ok x (List.mem_cons_of_mem _ hx)
  dj := (List.pairwise_cons.1 hS.dj).2
  dz := fun x hx => hS.dz x (List.mem_cons_of_mem _ hx)
  new := fun x hx => hS.new x (List.mem_cons_of_mem _ hx) }
theorem St.nilGs (hS : St h0 D Z0 R Z h L) (s : Nat) : St h0 D Z0 R Z h (.gs (.slice none 0 0) [] s :: L) :=
 hS.add _ (fun _ _ _ => rfl) (.inl ⟨rfl, rfl⟩) (fun b hb => by simp [Itm.ids] at hb) (Nat.le_refl _) hS.liv (fun _ q => q)
def Zn.ins (Z : Zn) (b : Nat) (cells : List Value) : Zn := fun x => if x = b then some cells else Z x
theorem Zn.ins_self (Z : Zn) (b : Nat) (cells : List Value) : (Z.ins b cells) b = some cells := if_pos rfl
theorem Zn.ins_ne (Z : Zn) {b x : Nat} (cells : List Value) (h : x ≠ b) : (Z.ins b cells) x = Z x := if_neg h
theorem St.freeze {α : Type} [Cell α] {v : Value} {cells : List Value} {xs : List α} (hS : St h0 D Z0 R Z h (.gs v cells (csz α) :: L)) (hR : RCs Z cells xs) :
  ∃ Z', Zle Z Z' ∧ RS Z' v xs ∧ St h0 D Z0 R Z' h L := by
 have hp : Itm.gs v cells (csz α) ∈ Itm.gs v cells (csz α) :: L := List.mem_cons_self
 rcases hS.ok _ hp with ⟨rfl, rfl⟩ | ⟨b, n, c, rfl, h1, h2, h3⟩
 ·have : xs = [] := by
   cases xs with
   | nil => rfl
   | cons x xs =>
    obtain ⟨cs, rest, q1, q2, _⟩ := hR
    have := Cell.len q2
    have := Cell.pos (α := α)
    cases cs with
    | nil => simp at *; omega
    | cons => simp at q1
  subst this
  exact ⟨Z, Zle.refl Z, ⟨none, 0, rfl, Nat.le_refl _, rfl⟩, hS.tail⟩
 ·have hids : (Itm.gs (.slice (some ⟨b, 0, none⟩) n c) cells (csz α)).ids = [b] := rfl
  have hzb : Z b = none := hS.dz _ hp b (by rw [hids]; simp)
  have hle : Zle Z (Z.ins b cells) := fun x cs hx => by
   rw [Zn.ins_ne _ _ (fun e => by rw [e, hzb] at hx; cases hx)]; exact hx
  have hlen := hR.length
  have hn : n = xs.length := Nat.eq_of_mul_eq_mul_right (Cell.pos (α := α)) (by show n * csz α = xs.length * csz α; omega)
  have hpw := List.pairwise_cons.1 hS.dj
  refine ⟨Z.ins b cells, hle, ⟨some ⟨b, 0, none⟩, c, by rw [hn], by omega, rfl, cells, Zn.ins_self _ _ _, by show 0 + _ ≤ _; omega, ?_⟩, ?_⟩
  ·have : List.take (xs.length * csz α) (List.drop 0 cells) = cells := by
    rw [List.drop_zero, List.take_of_length_le (by omega)]
   rw [this]
   exact hR.mono hle
  ·exact { hS.tail with
    zin := fun x cs hx => by
     by_cases e : x = b
     ·subst e; rw [Zn.ins_self] at hx; exact ⟨_, h3, Option.some.inj hx⟩
     ·rw [Zn.ins_ne _ _ e] at hx; exact hS.zin x cs hx
    dz := fun q hq x hx => by
     rw [Zn.ins_ne _ _ (fun e => hpw.1 q hq b (by rw [hids]; simp) (by rw [← e]; exact hx))]
     exact hS.tail.dz q hq x hx
    zle := hS.zle.trans hle
    zfr := fun x hx => by
     by_cases e : x = b
     ·subst e; exact .inr (hS.new _ hp x (by rw [hids]; simp))
     ·rw [Zn.ins_ne _ _ e] at hx; exact hS.zfr x hx }
theorem Inv.start (hI : Inv Z h) : St { h with low := h.next } [] Z (0, 0) Z { h with low := h.next } [] where
 zin := hI.zin
 liv := hI.liv
 ok p hp := by cases hp
 dj := List.Pairwise.nil
 dz p hp := by cases hp
 frm b _ _ := rfl
 nxt := Nat.le_refl _
 new p hp := by cases hp
 low x h1 _ _ := h1
 zle := Zle.refl _
 zfr b hb := .inl hb
 rsv b _ h2 := absurd h2 (Nat.not_lt_zero _)
 rlt := Nat.zero_le _
 rge := .inr rfl
theorem Pre.start (hS : Pre Z h L) : St { h with low := h.next } (idsL L) Z (0, 0) Z { h with low := h.next } L where
 zin := hS.zin
 liv := hS.liv
 ok := hS.ok
 dj := hS.dj
 dz := hS.dz
 frm b _ _ := rfl
 nxt := Nat.le_refl _
 new p hp b hb := .inl (mem_idsL.2 ⟨p, hp, hb⟩)
 low x h1 _ _ := h1
 zle := Zle.refl _
 zfr b hb := .inl hb
 rsv b _ h2 := absurd h2 (Nat.not_lt_zero _)
 rlt := Nat.zero_le _
 rge := .inr rfl
theorem St.call {A A' B : List Itm} (hS : St h0 D Z0 R Z h (A ++ B)) (hc : St h (idsL A) Z (0, 0) Z' h' A') : St h0 D Z0 R Z' h' (A' ++ B) := by
 have hA : ∀ p ∈ A, p ∈ A ++ B := fun p hp => List.mem_append_left _ hp
 have hB : ∀ p ∈ B, p ∈ A ++ B := fun p hp => List.mem_append_right _ hp
 obtain ⟨_, hd2, hd3⟩ := List.pairwise_append.1 hS.dj
 have hBA : ∀ q ∈ B, ∀ b ∈ q.ids, b ∉ idsL A := fun q hq b hb hbA => by
  obtain ⟨p, hp, hbp⟩ := mem_idsL.1 hbA
  exact hd3 p hp q hq b hbp hb
 have hidD : ∀ b ∈ idsL A, b ∈ D ∨ h0.next ≤ b := fun b hb => by
  obtain ⟨p, hp, hbp⟩ := mem_idsL.1 hb
  exact hS.new p (hA p hp) b hbp
 have hlive : ∀ b ∈ idsL A, h.blk b ≠ none := fun b hb => by
  obtain ⟨p, hp, hbp⟩ := mem_idsL.1 hb
  obtain ⟨B, h1, _⟩ := Itm.ok_live (hS.ok p (hA p hp)) hbp
  rw [h1]; simp
 exact {
  zin := hc.zin
  liv := hc.liv
  ok := fun p hp => by
   rcases List.mem_append.1 hp with hp | hp
   ·exact hc.ok p hp
   ·exact Itm.ok_same (hS.ok p (hB p hp)) fun b hb => hc.frm b (hS.toPre.lt (hB p hp) hb) (hBA p hp b hb)
  dj := List.pairwise_append.2 ⟨hc.dj, hd2, fun p hp q hq b hb hbq => by
   rcases hc.new p hp b hb with h1 | h1
   ·exact hBA q hq b hbq h1
   ·have := hS.toPre.lt (hB q hq) hbq; omega⟩
  dz := fun p hp b hb => by
   rcases List.mem_append.1 hp with hp | hp
   ·exact hc.dz p hp b hb
   ·cases hz : Z' b with
    | none => rfl
    | some cs =>
     rcases hc.zfr b (by rw [hz]; simp) with h1 | h1 | h1
     ·exact absurd (hS.dz p (hB p hp) b hb) h1
     ·exact absurd h1 (hBA p hp b hb)
     ·have := hS.toPre.lt (hB p hp) hb; omega
  frm := fun b hb hd => by
   rw [hc.frm b (Nat.lt_of_lt_of_le hb hS.nxt) (fun q => by rcases hidD b q with h1 | h1 <;> first | exact hd h1 | omega)]
   exact hS.frm b hb hd
  nxt := Nat.le_trans hS.nxt hc.nxt
  new := fun p hp b hb => by
   rcases List.mem_append.1 hp with hp | hp
   ·rcases hc.new p hp b hb with h1 | h1
    ·exact hidD b h1
    ·exact .inr (Nat.le_trans hS.nxt h1)
   ·exact hS.new p (hB p hp) b hb
  low := fun x h1 h2 h3 => hc.low x (hS.low x h1 h2 h3) (Nat.le_trans h2 hS.nxt) fun d hd => by
   rcases hidD d hd with q | q
   ·exact h3 d q
   ·omega
  zle := hS.zle.trans hc.zle
  zfr := fun b hb => by
   rcases hc.zfr b hb with h1 | h1 | h1
   ·exact hS.zfr b h1
   ·exact .inr (hidD b h1)
   ·exact .inr (.inr (Nat.le_trans hS.nxt h1))
  rsv := fun b h1 h2 => by
   have hn := hS.rsv b h1 h2
   rw [hc.frm b (Nat.lt_of_lt_of_le h2 hS.rlt) (fun q => hlive b q hn)]
   exact hn
  rlt := Nat.le_trans hS.rlt hc.nxt
  rge := hS.rge }
theorem St.leave (hS : St { h with low := h.next } D Z0 R Z h' L) : St h D Z0 R Z { h' with low := if h'.low < h.low then h'.low else h.low } L :=
 { hS with
  frm := hS.frm
  nxt := hS.nxt
  new := hS.new
  zfr := hS.zfr
  rlt := hS.rlt
  rge := hS.rge
  liv := hS.liv
  zin := hS.zin
  ok := fun p hp => Itm.ok_same (hS.ok p hp) fun _ _ => rfl
  low := fun x h1 h2 h3 => by
   have := hS.low x h2 h2 h3
   show x ≤ if h'.low < h.low then h'.low else h.low
   split <;> omega }
end
end Go.Proofs.Ytahcngeimlkcgaa.Sy
