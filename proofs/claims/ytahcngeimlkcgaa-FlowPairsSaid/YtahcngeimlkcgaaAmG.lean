/- The abstract machine: what storing and appending do to what stands for what. -/
import Derived.Test.YtahcngeimlkcgaaAmF
namespace Go.Proofs.Ytahcngeimlkcgaa.Am
open Go
variable [Marks]
set_option linter.unusedVariables false
set_option linter.unusedSectionVars false
set_option linter.unusedSimpArgs false
section
variable {P : Program} {ρ : Rho}
theorem Sim.part {w : World} {blk blk' : Blks} {next : Nat} (h : Sim ρ w blk next) (hb : ∀ b B, ρ b ≠ none → blk' b = some B → blk b = some B) (hl : ∀ b, blk' b ≠ none → b < next) : Sim ρ w blk' next := by
 have on : ∀ {b p}, ρ b = some p → ρ b ≠ none := fun q r => by rw [q] at r; cases r
 exact ⟨h.dom, h.lt, fun b B p q r => h.cell b B p (hb b B (on r) q) r, fun b B p q r => h.own b B p (hb b B (on r) q) r, fun b c B C p q e h1 h2 h3 h4 => h.apart b c B C p q e (hb b B (on h3) h1) (hb c C (on h4) h2) h3 h4, hl⟩
theorem Sim.less {w : World} {blk blk' : Blks} {next : Nat} (h : Sim ρ w blk next) (hb : ∀ b B, blk' b = some B → blk b = some B) : Sim ρ w blk' next :=
 ⟨h.dom, h.lt, fun b B p q => h.cell b B p (hb b B q), fun b B p q => h.own b B p (hb b B q), fun b c B C p q e h1 h2 => h.apart b c B C p q e (hb b B h1) (hb c C h2), fun b q => by
  cases hq : blk' b with
  | none => exact absurd hq q
  | some B => exact h.live b (by rw [hb b B hq]; exact fun q => by cases q)⟩
theorem Sim.wrote {w w' : World} {blk : Blks} {next : Nat} (h : Sim ρ w blk next) {b : Nat} {B : ABlk} {p : Place} (hB : blk b = some B) (hp : ρ b = some p) (ho : B.own = true)
  {cur cur' : Array Value} {el : TypeId} {fr : Nat × Nat} (h1 : w.heap[p.blk]? = some (.cells cur el fr)) (h2 : w'.heap[p.blk]? = some (.cells cur' el fr)) (h3 : cur'.size = cur.size)
  (h5 : ∀ k, k ≠ p.blk → w'.heap[k]? = w.heap[k]?) (h6 : w'.heap.size = w.heap.size)
  {cs : List Value} (hlen : cs.length ≤ p.ext) (hcs : ∀ (i : Nat) v, cs[i]? = some v → ∃ v', cur'[p.off + i]? = some v' ∧ VR ρ v v') :
  Sim ρ w' (updB blk b (some ⟨cs, true, B.esz⟩)) next := by
 obtain ⟨he, hl, cur0, el0, fr0, g1, g2, g3⟩ := h.own b B p hB hp ho
 rw [h1] at g1
 injection g1 with g1
 injection g1 with e1 e2 e3
 subst e1; subst e2; subst e3
 have other : ∀ c C q, c ≠ b → blk c = some C → ρ c = some q → q.blk ≠ p.blk := fun c C q hc hC hq e => h.apart b c B C p q (Ne.symm hc) hB hC hp hq ho e.symm
 refine ⟨h.dom, fun c q hq => by rw [h6]; exact h.lt c q hq, fun c C q hC hq i v hv => ?_, fun c C q hC hq hoc => ?_, fun c d C D q r hcd hC hD hq hr hoc => ?_, fun c hc => ?_⟩
 ·by_cases e : c = b
  ·subst e
   simp [updB] at hC
   subst hC
   rw [hp] at hq; cases hq
   obtain ⟨v', q1, q2⟩ := hcs i v hv
   exact ⟨v', by rw [cell_at h2]; exact q1, q2⟩
  ·have hC' : blk c = some C := by simpa [updB, e] using hC
   obtain ⟨v', q1, q2⟩ := h.cell c C q hC' hq i v hv
   exact ⟨v', by rw [← q1]; exact World.cell?_of_block (h5 _ (other c C q e hC' hq)), q2⟩
 ·by_cases e : c = b
  ·subst e
   simp [updB] at hC
   subst hC
   rw [hp] at hq; cases hq
   exact ⟨he, hlen, cur', el, fr, h2, by rw [h3]; exact g2, g3⟩
  ·have hC' : blk c = some C := by simpa [updB, e] using hC
   obtain ⟨q1, q2, c1, c2, c3, q3, q4, q5⟩ := h.own c C q hC' hq hoc
   exact ⟨q1, q2, c1, c2, c3, by rw [h5 _ (other c C q e hC' hq)]; exact q3, q4, q5⟩
 ·by_cases e : c = b
  ·subst e
   rw [hp] at hq; cases hq
   exact h.apart c d B D p r hcd hB (by simpa [updB, Ne.symm hcd] using hD) hp hr ho
  ·by_cases e2 : d = b
   ·subst e2
    rw [hp] at hr; cases hr
    exact h.apart c d C B q p hcd (by simpa [updB, e] using hC) hB hq hp hoc
   ·exact h.apart c d C D q r hcd (by simpa [updB, e] using hC) (by simpa [updB, e2] using hD) hq hr hoc
 ·by_cases e : c = b
  ·rw [e]; exact h.live b (by rw [hB]; exact fun q => by cases q)
  ·exact h.live c (by simpa [updB, e] using hc)
theorem Ext.wrote {w w' : World} {blk : Blks} {next : Nat} {b : Nat} {B : ABlk} {p : Place} (hB : blk b = some B) (hp : ρ b = some p) (ho : B.own = true)
  (h5 : ∀ k, k ≠ p.blk → w'.heap[k]? = w.heap[k]?) (h6 : w'.heap.size = w.heap.size) (h7 : w'.os = w.os) (h8 : w'.tape = w.tape) (h9 : w'.output = w.output) (B' : Option ABlk) :
  Ext ρ blk next w ρ (updB blk b B') next w' := by
 refine ⟨Rle.refl _, h7, h8, h9, by omega, Nat.le_refl _, fun k hk hn => h5 k fun e => hn ⟨b, B, p, hB, ho, hp, e.symm⟩, fun k hk ⟨c, C, q, q1, q2, q3, q4⟩ => ?_, fun _ _ h => .inl h, fun c hc hr => by
  simp only [updB]
  rw [if_neg (fun e => by subst e; rw [hp] at hr; cases hr)]⟩
 by_cases e : c = b
 ·subst e
  exact ⟨c, B, p, hB, ho, hp, by rw [hp] at q3; cases q3; exact q4⟩
 ·exact ⟨c, C, q, by simpa [updB, e] using q1, q2, q3, q4⟩
theorem Sim.moved {w : World} {blk : Blks} {next next' : Nat} (h : Sim ρ w blk next) {b : Nat} {B : ABlk} {p : Place} (hB : blk b = some B) (hp : ρ b = some p) (ho : B.own = true) {id : Nat} (hid : ρ id = none) (hlt : id < next') (hnx : next ≤ next') (o : Nat) (hoff : o ≤ p.ext)
  (hpl : p.off + o + (p.ext - o) = p.off + p.ext) :
  Sim (upd ρ id ⟨p.blk, p.off + o, p.sz, p.ext - o⟩) w (updB (updB blk b none) id (some ⟨B.cells.drop o, true, B.esz⟩)) next' := by
 have hbid : b ≠ id := fun e => by subst e; rw [hp] at hid; cases hid
 have hr := Rle.upd ρ ⟨p.blk, p.off + o, p.sz, p.ext - o⟩ hid
 have old : ∀ k q, upd ρ id ⟨p.blk, p.off + o, p.sz, p.ext - o⟩ k = some q → k ≠ id → ρ k = some q := fun k q hq hk => by simpa [upd, hk] using hq
 have oldB : ∀ c C, updB (updB blk b none) id (some ⟨B.cells.drop o, true, B.esz⟩) c = some C → c ≠ id → c ≠ b ∧ blk c = some C := fun c C hC hc => by
  by_cases e : c = b
  ·subst e; simp [updB, hc] at hC
  ·exact ⟨e, by simpa [updB, hc, e] using hC⟩
 obtain ⟨he, hl, cur, el, fr, g1, g2, g3⟩ := h.own b B p hB hp ho
 refine ⟨fun c q hq => ?_, fun c q hq => ?_, fun c C q hC hq i v hv => ?_, fun c C q hC hq hoc => ?_, fun c d C D q r hcd hC hD hq hr' hoc => ?_, fun c hc => ?_⟩
 ·by_cases e : c = id
  ·rw [e]; exact hlt
  ·exact Nat.lt_of_lt_of_le (h.dom c q (old c q hq e)) hnx
 ·by_cases e : c = id
  ·subst e; simp [upd] at hq; subst hq; exact h.lt b p hp
  ·exact h.lt c q (old c q hq e)
 ·by_cases e : c = id
  ·subst e
   simp [upd] at hq; subst hq
   simp [updB] at hC; subst hC
   have hv' : B.cells[o + i]? = some v := by simpa using hv
   obtain ⟨v', q1, q2⟩ := h.cell b B p hB hp (o + i) v hv'
   exact ⟨v', by rw [← q1]; simp [Nat.add_assoc], q2.mono hr⟩
  ·obtain ⟨_, hC'⟩ := oldB c C hC e
   obtain ⟨v', q1, q2⟩ := h.cell c C q hC' (old c q hq e) i v hv
   exact ⟨v', q1, q2.mono hr⟩
 ·by_cases e : c = id
  ·subst e
   simp [upd] at hq; subst hq
   simp [updB] at hC; subst hC
   exact ⟨he, by simp; omega, cur, el, fr, g1, by simp only; omega, by simp only; omega⟩
  ·obtain ⟨_, hC'⟩ := oldB c C hC e
   exact h.own c C q hC' (old c q hq e) hoc
 ·by_cases e : c = id
  ·subst e
   simp [upd] at hq; subst hq
   obtain ⟨hdb, hD'⟩ := oldB d D hD (Ne.symm hcd)
   exact h.apart b d B D p r (Ne.symm hdb) hB hD' hp (old d r hr' (Ne.symm hcd)) ho
  ·obtain ⟨hcb, hC'⟩ := oldB c C hC e
   by_cases e2 : d = id
   ·subst e2
    simp [upd] at hr'; subst hr'
    exact h.apart c b C B q p hcb hC' hB (old c q hq e) hp hoc
   ·obtain ⟨_, hD'⟩ := oldB d D hD e2
    exact h.apart c d C D q r hcd hC' hD' (old c q hq e) (old d r hr' e2) hoc
 ·by_cases e : c = id
  ·rw [e]; exact hlt
  ·by_cases e2 : c = b
   ·subst e2; simp [updB, e] at hc
   ·exact Nat.lt_of_lt_of_le (h.live c (by simpa [updB, e, e2] using hc)) hnx
theorem Ext.moved {w : World} {blk : Blks} {next next' : Nat} {b : Nat} {B : ABlk} {p : Place} (hB : blk b = some B) (hp : ρ b = some p) (ho : B.own = true) {id : Nat} (hid : ρ id = none) (hn : next ≤ id) (hnx : next ≤ next') {pl : Place} (hpl : pl.blk = p.blk) (B' : ABlk) :
  Ext ρ blk next w (upd ρ id pl) (updB (updB blk b none) id (some B')) next' w := by
 refine ⟨Rle.upd ρ pl hid, rfl, rfl, rfl, Nat.le_refl _, hnx, fun _ _ _ => rfl, fun k hk ⟨c, C, q, q1, q2, q3, q4⟩ => ?_, fun c q hq => ?_, fun c hc hr => by
  simp only [updB]
  rw [if_neg (by omega), if_neg (fun e => by subst e; rw [hp] at hr; cases hr)]⟩
 ·by_cases e : c = id
  ·subst e
   simp [upd] at q3; subst q3
   exact ⟨b, B, p, hB, ho, hp, by rw [← hpl]; exact q4⟩
  ·by_cases e2 : c = b
   ·subst e2; simp [updB, e] at q1
   ·exact ⟨c, C, q, by simpa [updB, e, e2] using q1, q2, by simpa [upd, e] using q3, q4⟩
 ·by_cases e : c = id
  ·subst e
   simp [upd] at hq
   subst hq
   exact .inr ⟨hn, .inr ⟨b, B, p, hB, ho, hp, by rw [hpl]⟩⟩
  ·exact .inl (by simpa [upd, e] using hq)
theorem load_run {w : World} {h : AH} {a a' : Addr} {v : Value} (hs : Sim ρ w h.blk h.next) (hl : h.load a = some v) (ha : AR ρ a a') : ∃ v', VR ρ v v' ∧ w.cell? a' = some v' := by
 obtain ⟨hsp, p, hp, rfl⟩ := ha
 simp only [AH.load, hsp] at hl
 cases hb : h.blk a.block with
 | none => rw [hb] at hl; cases hl
 | some B =>
  rw [hb] at hl
  obtain ⟨v', q1, q2⟩ := hs.cell _ B p hb hp a.off v hl
  exact ⟨v', q2, q1⟩
theorem cells_run {w : World} {h : AH} {a a' : Addr} {n : Nat} {cs : List Value} (hs : Sim ρ w h.blk h.next) (hl : h.cellsAt a n = some cs) (ha : AR ρ a a') : ∃ cs', LR ρ cs cs' ∧ cs.length = n ∧ ∀ j v, cs'[j]? = some v → w.cell? (a'.add j) = some v := by
 obtain ⟨hsp, p, hp, rfl⟩ := ha
 simp only [AH.cellsAt, hsp] at hl
 cases hb : h.blk a.block with
 | none => rw [hb] at hl; cases hl
 | some B =>
  rw [hb] at hl
  simp only [Option.bind_some] at hl
  split at hl
  ·rename_i hle
   simp at hl; subst hl
   have hc : ∀ j, j < n → ∃ v', w.cell? ⟨p.blk, p.off + (a.off + j), none⟩ = some v' ∧ ∀ v, B.cells[a.off + j]? = some v → VR ρ v v' := by
    intro j hj
    have hlt : a.off + j < B.cells.length := by omega
    obtain ⟨v', q1, q2⟩ := hs.cell _ B p hb hp (a.off + j) _ (List.getElem?_eq_getElem hlt)
    exact ⟨v', q1, fun v hv => by rw [List.getElem?_eq_getElem hlt] at hv; cases hv; exact q2⟩
   refine ⟨(List.range n).map fun j => (w.cell? ⟨p.blk, p.off + (a.off + j), none⟩).getD undef, ⟨by simp; omega, fun i v v' x y => ?_⟩, by simp; omega, fun j v hv => ?_⟩
   ·have hi : i < n := by
     have := (List.getElem?_eq_some_iff.1 y).1
     simpa using this
    obtain ⟨u, u1, u2⟩ := hc i hi
    simp [hi, u1] at y
    subst y
    apply u2
    rw [List.getElem?_take, if_pos hi, List.getElem?_drop] at x
    exact x
   ·have hj : j < n := by
     have := (List.getElem?_eq_some_iff.1 hv).1
     simpa using this
    obtain ⟨u, u1, u2⟩ := hc j hj
    simp [hj, u1] at hv
    subst hv
    rw [show (⟨p.blk, p.off + a.off, none⟩ : Addr).add j = ⟨p.blk, p.off + (a.off + j), none⟩ by
     unfold Addr.add; split <;> simp_all [Nat.add_assoc]]
    exact u1
  ·cases hl
theorem aLoad_run {w : World} {h : AH} {t : TypeId} {x x' v : Value} (hs : Sim ρ w h.blk h.next) (hl : aLoad P t x h = some v) (hx : VR ρ x x') : ∃ v', VR ρ v v' ∧ (Instr.loadAt t x').run P w = .ok v' w := by
 unfold aLoad at hl
 split at hl
 ·rename_i a
  obtain ⟨a', rfl, ha⟩ : ∃ a', x' = .pointer (some a') ∧ AR ρ a a' := by
   cases hx with
   | ptr h => exact ⟨_, rfl, h⟩
  cases hd : P.underlying t with
  | none => rw [hd] at hl; cases hl
  | some d =>
   rw [hd] at hl
   simp only [Option.bind_some] at hl
   by_cases hag : aggD d = true
   ·rw [if_pos hag] at hl
    cases hz : tsize P t with
    | none => rw [hz] at hl; cases hl
    | some s =>
     rw [hz] at hl
     simp only [Option.bind_some] at hl
     cases hc : h.cellsAt a s with
     | none => rw [hc] at hl; cases hl
     | some cs =>
      rw [hc] at hl; simp at hl; subst hl
      obtain ⟨cs', q1, q2, q3⟩ := cells_run hs hc ha
      refine ⟨.agg cs'.toArray, q1.to_agg, ?_⟩
      have hlc := run_loadCells_list (P := P) w a' cs' q3
      rw [← q1.1, q2] at hlc
      simp [Instr.loadAt, Instr.sureAddr, loadVar, run_isAgg' hd, hag, run_size hz, hlc]
   ·rw [if_neg hag] at hl
    obtain ⟨v', q1, q2⟩ := load_run hs hl ha
    exact ⟨v', q1, by simp [Instr.loadAt, Instr.sureAddr, loadVar, run_isAgg' hd, hag, q2]⟩
 ·cases hl
end
end Go.Proofs.Ytahcngeimlkcgaa.Am
