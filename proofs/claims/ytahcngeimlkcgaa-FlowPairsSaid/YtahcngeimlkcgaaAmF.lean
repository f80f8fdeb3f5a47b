/- The abstract machine: its heap stands for the model's memory; what making, storing and appending do to that. -/
import Derived.Test.YtahcngeimlkcgaaAmE
import Derived.Laws.BytesString
namespace Go.Proofs.Ytahcngeimlkcgaa.Am
open Go
variable [Marks]
set_option linter.unusedVariables false
set_option linter.unusedSectionVars false
set_option linter.unusedSimpArgs false
section
variable {P : Program} {ρ : Rho}
abbrev Blks := Nat → Option ABlk
def Owns (ρ : Rho) (blk : Blks) (k : Nat) : Prop := ∃ b B p, blk b = some B ∧ B.own = true ∧ ρ b = some p ∧ p.blk = k
structure Sim (ρ : Rho) (w : World) (blk : Blks) (next : Nat) : Prop where
 dom : ∀ b p, ρ b = some p → b < next
 lt : ∀ b p, ρ b = some p → p.blk < w.heap.size
 cell : ∀ b B p, blk b = some B → ρ b = some p → ∀ (i : Nat) v, B.cells[i]? = some v → ∃ v', w.cell? ⟨p.blk, p.off + i, none⟩ = some v' ∧ VR ρ v v'
 own : ∀ b B p, blk b = some B → ρ b = some p → B.own = true → B.esz = p.sz ∧ B.cells.length ≤ p.ext ∧
  ∃ cur el fr, w.heap[p.blk]? = some (.cells cur el fr) ∧ p.off + p.ext ≤ cur.size ∧ (fr.1 = fr.2 ∨ p.off + p.ext ≤ fr.1)
 apart : ∀ b c B C p q, b ≠ c → blk b = some B → blk c = some C → ρ b = some p → ρ c = some q → B.own = true → p.blk ≠ q.blk
 live : ∀ b, blk b ≠ none → b < next
structure Ext (ρ : Rho) (blk : Blks) (next : Nat) (w : World) (ρ' : Rho) (blk' : Blks) (next' : Nat) (w' : World) : Prop where
 le : Rle ρ ρ'
 os : w'.os = w.os
 tape : w'.tape = w.tape
 output : w'.output = w.output
 size : w.heap.size ≤ w'.heap.size
 nx : next ≤ next'
 keep : ∀ k, k < w.heap.size → ¬ Owns ρ blk k → w'.heap[k]? = w.heap[k]?
 owns : ∀ k, k < w.heap.size → Owns ρ' blk' k → Owns ρ blk k
 new : ∀ b p, ρ' b = some p → ρ b = some p ∨ (next ≤ b ∧ (w.heap.size ≤ p.blk ∨ Owns ρ blk p.blk))
 un : ∀ b, b < next → ρ b = none → blk' b = blk b
theorem Ext.refl (ρ : Rho) (blk : Blks) (next : Nat) (w : World) : Ext ρ blk next w ρ blk next w :=
 ⟨Rle.refl _, rfl, rfl, rfl, Nat.le_refl _, Nat.le_refl _, fun _ _ _ => rfl, fun _ _ h => h, fun _ _ h => .inl h, fun _ _ _ => rfl⟩
theorem Ext.trans' {ρ ρ1 ρ2 : Rho} {blk blk1 blk2 : Blks} {n n1 m n2 : Nat} {w w1 w2 : World} (h : Ext ρ blk n w ρ1 blk1 n1 w1) (k : Ext ρ1 blk1 m w1 ρ2 blk2 n2 w2) (hm : n ≤ m) : Ext ρ blk n w ρ2 blk2 n2 w2 :=
 ⟨h.le.trans k.le, k.os.trans h.os, k.tape.trans h.tape, k.output.trans h.output, Nat.le_trans h.size k.size, Nat.le_trans hm k.nx,
  fun i hi ho => (k.keep i (Nat.lt_of_lt_of_le hi h.size) (fun q => ho (h.owns i hi q))).trans (h.keep i hi ho),
  fun i hi q => h.owns i hi (k.owns i (Nat.lt_of_lt_of_le hi h.size) q),
  fun b p q => (k.new b p q).elim (fun q => h.new b p q) (fun q => .inr ⟨Nat.le_trans hm q.1, by
   by_cases e : p.blk < w.heap.size
   ·exact q.2.elim (fun q => absurd h.size (by omega)) (fun q => .inr (h.owns _ e q))
   ·exact .inl (by omega)⟩),
  fun b hb hr => by
   rw [k.un b (by omega) ?_, h.un b hb hr]
   cases hq : ρ1 b with
   | none => rfl
   | some p => exact (h.new b p hq).elim (fun q => by rw [hr] at q; cases q) (fun q => absurd q.1 (by omega))⟩
theorem Ext.trans {ρ ρ1 ρ2 : Rho} {blk blk1 blk2 : Blks} {n n1 n2 : Nat} {w w1 w2 : World} (h : Ext ρ blk n w ρ1 blk1 n1 w1) (k : Ext ρ1 blk1 n1 w1 ρ2 blk2 n2 w2) : Ext ρ blk n w ρ2 blk2 n2 w2 :=
 h.trans' k h.nx
theorem unfrozen {fr : Nat × Nat} {n : Nat} (h : fr.1 = fr.2 ∨ n ≤ fr.1) (j : Nat) (hj : j < n) : ¬ (fr.1 ≤ j ∧ j < fr.2) := by omega
theorem cell_at {w : World} {b o : Nat} {c : Array Value} {el : TypeId} {fr : Nat × Nat} (h : w.heap[b]? = some (.cells c el fr)) : w.cell? ⟨b, o, none⟩ = c[o]? := by simp [World.cell?, h]
theorem Sim.world {w w' : World} {blk : Blks} {next : Nat} (h : Sim ρ w blk next) (hh : w'.heap = w.heap) : Sim ρ w' blk next :=
 ⟨h.dom, fun b p q => by rw [hh]; exact h.lt b p q, fun b B p q r i v hv => by
  obtain ⟨v', h1, h2⟩ := h.cell b B p q r i v hv
  exact ⟨v', by rw [← h1]; exact World.cell?_of_block (by rw [hh]), h2⟩,
  fun b B p q r s => by rw [hh]; exact h.own b B p q r s, h.apart, h.live⟩
def upd (ρ : Rho) (id : Nat) (p : Place) : Rho := fun b => if b = id then some p else ρ b
def updB (blk : Blks) (id : Nat) (B : Option ABlk) : Blks := fun b => if b = id then B else blk b
theorem Rle.upd (ρ : Rho) {id : Nat} (p : Place) (h : ρ id = none) : Rle ρ (upd ρ id p) := fun b q hq => by
 unfold Am.upd
 split
 ·rename_i e; subst e; rw [h] at hq; cases hq
 ·exact hq
theorem Sim.made {w w1 : World} {blk : Blks} {next next' : Nat} (h : Sim ρ w blk next) {id : Nat} (hid : ρ id = none) (hlt : id < next') (hnx : next ≤ next')
  {cs cs' : List Value} (hl : LR ρ cs cs') {C : Array Value} {el : TypeId} {fr : Nat × Nat} {esz ext : Nat} (hsz : w1.heap.size = w.heap.size + 1) (hold : ∀ k, k < w.heap.size → w1.heap[k]? = w.heap[k]?)
  (hnew : w1.heap[w.heap.size]? = some (.cells C el fr)) (hC : ∀ (i : Nat) v, cs'[i]? = some v → C[i]? = some v) (hext : ext ≤ C.size) (hce : cs.length ≤ ext) (hfr : fr.1 = fr.2 ∨ ext ≤ fr.1) :
  Sim (upd ρ id ⟨w.heap.size, 0, esz, ext⟩) w1 (updB blk id (some ⟨cs, true, esz⟩)) next' := by
 have hr := Rle.upd ρ ⟨w.heap.size, 0, esz, ext⟩ hid
 have old : ∀ k p, upd ρ id ⟨w.heap.size, 0, esz, ext⟩ k = some p → k ≠ id → ρ k = some p := fun k p q hk => by simpa [upd, hk] using q
 have cellold : ∀ (k o : Nat), k < w.heap.size → w1.cell? ⟨k, o, none⟩ = w.cell? ⟨k, o, none⟩ := fun k o hk => World.cell?_of_block (hold k hk)
 refine ⟨fun b p q => ?_, fun b p q => ?_, fun b B p q r i v hv => ?_, fun b B p q r s => ?_, fun b c B C' p q hbc hB hC' hp hq ho => ?_, fun b hb => ?_⟩
 ·by_cases e : b = id
  ·rw [e]; exact hlt
  ·exact Nat.lt_of_lt_of_le (h.dom b p (old b p q e)) hnx
 ·by_cases e : b = id
  ·subst e
   simp [upd] at q
   subst q
   simp only; omega
  ·have := h.lt b p (old b p q e); omega
 ·by_cases e : b = id
  ·subst e
   simp [upd] at r
   simp [updB] at q
   subst r; subst q
   obtain ⟨v', h1, h2⟩ := hl.get hv
   exact ⟨v', by rw [cell_at hnew]; simpa using hC i v' h1, h2.mono hr⟩
  ·have hp := old b p r e
   obtain ⟨v', h1, h2⟩ := h.cell b B p (by simpa [updB, e] using q) hp i v hv
   exact ⟨v', by rw [cellold _ _ (h.lt b p hp)]; exact h1, h2.mono hr⟩
 ·by_cases e : b = id
  ·subst e
   simp [upd] at r
   simp [updB] at q
   subst r; subst q
   exact ⟨rfl, hce, C, el, fr, hnew, by simpa using hext, by simpa using hfr⟩
  ·have hp := old b p r e
   obtain ⟨h1, h2, cur, el', fr', h3, h4, h5⟩ := h.own b B p (by simpa [updB, e] using q) hp s
   exact ⟨h1, h2, cur, el', fr', by rw [hold _ (h.lt b p hp)]; exact h3, h4, h5⟩
 ·by_cases e : b = id
  ·subst e
   simp [upd] at hp
   subst hp
   have := h.lt c q (old c q hq (Ne.symm hbc))
   simp only; omega
  ·by_cases e2 : c = id
   ·subst e2
    simp [upd] at hq
    subst hq
    have := h.lt b p (old b p hp e)
    simp only; omega
   ·exact h.apart b c B C' p q hbc (by simpa [updB, e] using hB) (by simpa [updB, e2] using hC') (old b p hp e) (old c q hq e2) ho
 ·by_cases e : b = id
  ·rw [e]; exact hlt
  ·exact Nat.lt_of_lt_of_le (h.live b (by simpa [updB, e] using hb)) hnx
theorem Ext.made {w w1 : World} {blk : Blks} {next next' : Nat} {id : Nat} (hid : ρ id = none) (hn : next ≤ id) (hnx : next ≤ next') {pl : Place} (hpl : pl.blk = w.heap.size) {B : ABlk}
  (hsz : w1.heap.size = w.heap.size + 1) (hold : ∀ k, k < w.heap.size → w1.heap[k]? = w.heap[k]?) (ho : w1.os = w.os) (ht : w1.tape = w.tape) (hu : w1.output = w.output) :
  Ext ρ blk next w (upd ρ id pl) (updB blk id (some B)) next' w1 := by
 refine ⟨Rle.upd ρ pl hid, ho, ht, hu, by omega, hnx, fun k hk _ => hold k hk, fun k hk ⟨b, B', p, q1, q2, q3, q4⟩ => ?_, fun b p q => ?_, fun b hb _ => by simp only [updB]; rw [if_neg (by omega)]⟩
 ·by_cases e : b = id
  ·subst e
   simp [upd] at q3
   subst q3
   omega
  ·exact ⟨b, B', p, by simpa [updB, e] using q1, q2, by simpa [upd, e] using q3, q4⟩
 ·by_cases e : b = id
  ·subst e
   simp [upd] at q
   subst q
   exact .inr ⟨hn, .inl (by omega)⟩
  ·exact .inl (by simpa [upd, e] using q)
theorem storeCells_run (g o : Nat) : ∀ (vs : List Value) (i : Nat) (w : World) (cur : Array Value) (el : TypeId) (fr : Nat × Nat), w.heap[g]? = some (.cells cur el fr) → o + i + vs.length ≤ cur.size →
  (∀ j, o + i ≤ j → j < o + i + vs.length → ¬ (fr.1 ≤ j ∧ j < fr.2)) → (∀ v ∈ vs, v.oneCell' = true) →
  ∃ w' cur', (storeCells ⟨g, o, none⟩ vs i).run P w = .ok () w' ∧ w'.heap[g]? = some (.cells cur' el fr) ∧ cur'.size = cur.size ∧
   (∀ j : Nat, cur'[j]? = if o + i ≤ j ∧ j < o + i + vs.length then vs[j - (o + i)]? else cur[j]?) ∧ (∀ k, k ≠ g → w'.heap[k]? = w.heap[k]?) ∧ w'.heap.size = w.heap.size ∧ w'.os = w.os ∧ w'.tape = w.tape ∧ w'.output = w.output := by
 intro vs
 induction vs with
 | nil => intro i w cur el fr hg _ _ _; exact ⟨w, cur, rfl, hg, rfl, fun j => by rw [if_neg (by simp only [List.length_nil]; omega)], fun _ _ => rfl, rfl, rfl, rfl, rfl⟩
 | cons v vs ih =>
  intro i w cur el fr hg hl hf h1
  simp only [List.length_cons] at hl hf
  have hadd : (⟨g, o, none⟩ : Addr).add i = ⟨g, o + i, none⟩ := by unfold Addr.add; split <;> simp_all
  have hc : w.cell? ⟨g, o + i, none⟩ = some cur[o + i] := by rw [cell_at hg]; exact Array.getElem?_eq_getElem (by omega)
  have hz : w.frozen? ⟨g, o + i, none⟩ = false := by
   have := hf (o + i) (by omega) (by omega)
   simp only [World.frozen?, hg]
   simp
   intro h; have := fun q => this ⟨h, q⟩; omega
  have hst : (store ((⟨g, o, none⟩ : Addr).add i) v).run P w = .ok () (w.setCell ⟨g, o + i, none⟩ v) := by
   rw [hadd, run_store P w _ v _ (h1 v (by simp)), hc]
   simp [hz]
  have hg2 : (w.setCell ⟨g, o + i, none⟩ v).heap[g]? = some (.cells (cur.setIfInBounds (o + i) v) el fr) := by
   simp [World.setCell, Array.getElem?_modify, hg]
  obtain ⟨w', cur', r1, r2, r3, r4, r5, r6, r7, r8, r9⟩ := ih (i + 1) (w.setCell ⟨g, o + i, none⟩ v) _ el fr hg2 (by simp; omega) (fun j a b => hf j (by omega) (by omega)) (fun u hu => h1 u (by simp [hu]))
  refine ⟨w', cur', ?_, r2, by rw [r3]; simp, fun j => ?_, fun k hk => ?_, by rw [r6]; simp [World.setCell], by rw [r7]; rfl, by rw [r8]; rfl, by rw [r9]; rfl⟩
  ·simp only [storeCells, Sem.run_bind, hst, Result.andThen_ok, r1]
  ·rw [r4 j]
   by_cases e : j = o + i
   ·subst e
    rw [if_neg (by omega), if_pos (by simp only [List.length_cons]; omega), Nat.sub_self]
    simp [Array.getElem?_setIfInBounds_self_of_lt (show o + i < cur.size by omega)]
   ·by_cases e2 : o + (i + 1) ≤ j ∧ j < o + (i + 1) + vs.length
    ·rw [if_pos e2, if_pos (by simp; omega)]
     have : j - (o + i) = (j - (o + (i + 1))) + 1 := by omega
     rw [this, List.getElem?_cons_succ]
    ·rw [if_neg e2, if_neg (by simp; omega)]
     rw [Array.getElem?_setIfInBounds_ne (by omega)]
  ·rw [r5 k hk]
   simp [World.setCell, Array.getElem?_modify, Ne.symm hk]
end
end Go.Proofs.Ytahcngeimlkcgaa.Am
