/- The abstract machine: regions that draw: any order that the model may draw ends as the text's order does; the frame. -/
import Derived.Test.YtahcngeimlkcgaaAmP
namespace Go.Proofs.Ytahcngeimlkcgaa.Am
open Go
variable [Marks]
set_option linter.unusedVariables false
set_option linter.unusedSectionVars false
set_option linter.unusedSimpArgs false
def Dn (listed : Array Bool) (j : Nat) : Prop := listed.getD j false = true
def leftOf (n : Nat) (listed : Array Bool) : List Nat := (List.range n).filter fun i => !listed.getD i false
theorem filter_lt {α : Type} (p q : α → Bool) : ∀ (l : List α), (∀ x ∈ l, q x = true → p x = true) → (∃ x ∈ l, p x = true ∧ q x = false) → (l.filter q).length < (l.filter p).length := by
 intro l
 induction l with
 | nil => rintro _ ⟨x, h, _⟩; cases h
 | cons y l ih =>
  intro h1 h2
  have hle : (l.filter q).length ≤ (l.filter p).length := by
   clear ih h2
   induction l with
   | nil => simp
   | cons z l ih =>
    have := ih fun x hx => h1 x (by simp at hx ⊢; rcases hx with hx | hx <;> simp [hx])
    simp only [List.filter_cons]
    have hz := h1 z (by simp)
    cases hq : q z <;> cases hp : p z <;> simp_all <;> omega
  simp only [List.filter_cons]
  have hy := h1 y (by simp)
  by_cases hyy : p y = true ∧ q y = false
  ·simp only [hyy.1, hyy.2, if_true, Bool.false_eq_true, if_false, List.length_cons]; omega
  ·have : (l.filter q).length < (l.filter p).length := ih (fun x hx => h1 x (by simp [hx])) (by
    obtain ⟨x, hx, hxx⟩ := h2
    rcases List.mem_cons.1 hx with rfl | hx
    ·exact absurd hxx hyy
    ·exact ⟨x, hx, hxx⟩)
   cases hq : q y <;> cases hp : p y <;> simp_all <;> omega
theorem Dn_set {n : Nat} {listed : Array Bool} (hn : listed.size = n) {i : Nat} (hi : i < n) : Dn (listed.setIfInBounds i true) = fun j => j = i ∨ Dn listed j := by
 funext j
 unfold Dn
 by_cases e : j = i
 ·subst e
  simp [Array.getD_eq_getD_getElem?, Array.getElem?_setIfInBounds_self_of_lt (show j < listed.size by omega)]
 ·simp [e, Array.getD_eq_getD_getElem?, Array.getElem?_setIfInBounds_ne (Ne.symm e)]
theorem getD_undone {n : Nat} {listed : Array Bool} (hn : listed.size = n) {i : Nat} : listed.getD i true = false ↔ i < n ∧ ¬ Dn listed i := by
 unfold Dn
 rw [Array.getD_eq_getD_getElem?, Array.getD_eq_getD_getElem?]
 by_cases h : i < n
 ·rw [Array.getElem?_eq_getElem (by omega)]; simp [h]
 ·rw [Array.getElem?_eq_none (by omega)]; simp [h]
theorem wpAny_inv {P : Program} {ops : Array Oper} {Q : Exit → Act → World → Prop} (hback : backOk ops.toList = true) (I : (Nat → Prop) → Act → World → Prop)
  (hstep : ∀ D i o a w, I D a w → ops[i]? = some o → ¬ D i → (∀ e ∈ o.after.toList, Region.binds .any e = true → D e.on) → ∀ K : Act → World → Prop, (∀ a' w', I (fun j => j = i ∨ D j) a' w' → K a' w') → wpOp P ops Q i K a w)
  (hend : ∀ D a w, I D a w → (∀ i, i < ops.size → D i) → Q .normal a w) :
  ∀ (fuel : Nat) (listed : Array Bool) (a : Act) (w : World), listed.size = ops.size → (leftOf ops.size listed).length ≤ fuel → I (Dn listed) a w → wpAny P .any ops Q fuel listed a w := by
 -- where nothing is ready, all is done
 have done : ∀ (listed : Array Bool), listed.size = ops.size → Region.ready .any ops listed = [] → ∀ i, i < ops.size → Dn listed i := by
  intro listed hsz hr i
  induction i using Nat.strongRecOn with
  | _ i ih =>
   intro hi
   refine Classical.byContradiction fun hn => ?_
   have : i ∈ Region.ready .any ops listed := by
    rw [mem_ready]
    refine ⟨(getD_undone hsz).2 ⟨hi, hn⟩, ops[i], by simp [hi], fun e he hb => ?_⟩
    simp only [backOk, List.all_eq_true, List.mem_range] at hback
    have h1 := hback i (by simpa using hi) e (by simpa [List.getD_eq_getElem?_getD, hi] using he)
    rw [hb] at h1
    have h2 : e.on < i := by simpa using h1
    exact ih e.on h2 (by omega)
   rw [hr] at this
   cases this
 intro fuel
 induction fuel with
 | zero =>
  intro listed a w hsz hl hI
  have hnil : leftOf ops.size listed = [] := List.eq_nil_of_length_eq_zero (by omega)
  have hall : ∀ i, i < ops.size → Dn listed i := by
   intro i hi
   refine Classical.byContradiction fun hn => ?_
   have : i ∈ leftOf ops.size listed := by
    unfold leftOf
    rw [List.mem_filter, List.mem_range]
    exact ⟨hi, by simpa [Dn] using hn⟩
   rw [hnil] at this
   cases this
  refine ⟨?_, hend _ a w hI hall⟩
  cases hr : Region.ready .any ops listed with
  | nil => rfl
  | cons i l =>
   have : i ∈ Region.ready .any ops listed := by rw [hr]; simp
   obtain ⟨h0, h1⟩ := (getD_undone hsz).1 (mem_ready.1 this).1
   exact absurd (hall i h0) h1
 | succ fuel ih =>
  intro listed a w hsz hl hI
  refine ⟨fun hr => hend _ a w hI (done listed hsz hr), fun i hi => ?_⟩
  obtain ⟨h0, o, ho, hall⟩ := mem_ready.1 hi
  obtain ⟨hlt, hn⟩ := (getD_undone hsz).1 h0
  refine hstep _ i o a w hI ho hn (fun e he hb => hall e (by simpa using he) hb) _ fun a' w' hI' => ?_
  refine ih _ a' w' (by simp [hsz]) ?_ (by rw [Dn_set hsz hlt]; exact hI')
  have : (leftOf ops.size (listed.setIfInBounds i true)).length < (leftOf ops.size listed).length := by
   have hD := Dn_set hsz hlt
   have hd : ∀ j, (listed.setIfInBounds i true).getD j false = true ↔ (j = i ∨ listed.getD j false = true) := fun j => by
    have := congrFun hD j
    unfold Dn at this
    rw [this]
   refine filter_lt _ _ _ (fun j _ hj => ?_) ⟨i, by simpa using hlt, ?_, ?_⟩
   ·simp only [Bool.not_eq_true'] at hj ⊢
    cases hq : listed.getD j false with
    | false => rfl
    | true => rw [(hd j).2 (.inr hq)] at hj; cases hj
   ·simpa [Dn] using hn
   ·simp only [(hd i).2 (.inl rfl), Bool.not_true]
  omega
theorem Sim.merge {ρ ρ' : Rho} {w w' : World} {G X X' G' : Blks} {nx nx' : Nat} (hs : Sim ρ w G nx) (hs' : Sim ρ' w' X' nx') (hE : Ext ρ X nx w ρ' X' nx' w')
  (hX : ∀ b B, ρ b ≠ none → X b = some B → G b = some B) (hdead : ∀ b, b < nx → X b = none → X' b = none)
  (hG1 : ∀ b, ρ b ≠ none → X b = none → G' b = G b) (hG2 : ∀ b, ρ' b ≠ none → (ρ b = none ∨ X b ≠ none) → G' b = X' b) (hl : ∀ b, G' b ≠ none → b < nx') : Sim ρ' w' G' nx' := by
 have on : ∀ {ρ : Rho} {b p}, ρ b = some p → ρ b ≠ none := fun q r => by rw [q] at r; cases r
 have live : ∀ {X : Blks} {b B}, X b = some B → X b ≠ none := fun q r => by rw [q] at r; cases r
 -- every number stands on one side
 have side : ∀ b p, ρ' b = some p → (ρ b = some p ∧ X b = none ∧ G' b = G b) ∨ ((ρ b = none ∨ X b ≠ none) ∧ G' b = X' b) := by
  intro b p hp
  cases hr : ρ b with
  | none => exact .inr ⟨.inl rfl, hG2 b (on hp) (.inl hr)⟩
  | some q =>
   have : q = p := by have := hE.le b q hr; rw [hp] at this; exact (Option.some.inj this).symm
   subst this
   cases hx : X b with
   | none => exact .inl ⟨rfl, rfl, hG1 b (on hr) hx⟩
   | some B => exact .inr ⟨.inr (fun q => by cases q), hG2 b (on hp) (.inr (live hx))⟩
 -- what one side owns lies apart from the other side's rows
 have far : ∀ b B p, ρ b = some p → X b = none → G b = some B → ∀ k, Owns ρ X k → k ≠ p.blk := by
  rintro b B p hp hx hB k ⟨c, C, q, q1, q2, q3, q4⟩ e
  have hbc : c ≠ b := fun e => by subst e; rw [hx] at q1; cases q1
  exact hs.apart c b C B q p hbc (hX c C (on q3) q1) hB q3 hp q2 (by rw [q4, e])
 refine ⟨hs'.dom, hs'.lt, fun b B p hB hp => ?_, fun b B p hB hp ho => ?_, fun b c B C p q hbc hB hC hp hq ho => ?_, hl⟩
 ·rcases side b p hp with ⟨h1, h2, h3⟩ | ⟨h1, h2⟩
  ·intro i v hv
   rw [h3] at hB
   obtain ⟨v', g1, g2⟩ := hs.cell b B p hB h1 i v hv
   refine ⟨v', ?_, g2.mono hE.le⟩
   rw [← g1]
   exact World.cell?_of_block (hE.keep _ (hs.lt b p h1) fun hO => far b B p h1 h2 hB _ hO rfl)
  ·exact hs'.cell b B p (by rw [← h2]; exact hB) hp
 ·rcases side b p hp with ⟨h1, h2, h3⟩ | ⟨h1, h2⟩
  ·rw [h3] at hB
   have := hs.own b B p hB h1 ho
   rwa [← hE.keep _ (hs.lt b p h1) fun hO => far b B p h1 h2 hB _ hO rfl] at this
  ·exact hs'.own b B p (by rw [← h2]; exact hB) hp ho
 ·rcases side b p hp with ⟨h1, h2, h3⟩ | ⟨h1, h2⟩
  ·rw [h3] at hB
   rcases side c q hq with ⟨k1, k2, k3⟩ | ⟨k1, k2⟩
   ·exact hs.apart b c B C p q hbc hB (by rw [← k3]; exact hC) h1 k1 ho
   ·rw [k2] at hC
    cases hrc : ρ c with
    | none =>
     rcases hE.new c q hq with g | ⟨_, g | g⟩
     ·rw [hrc] at g; cases g
     ·have := hs.lt b p h1; omega
     ·exact fun e => far b B p h1 h2 hB _ g e.symm
    | some q' =>
     have hqq : q' = q := by have := hE.le c q' hrc; rw [hq] at this; exact (Option.some.inj this).symm
     subst hqq
     have hxc : X c ≠ none := by
      rcases k1 with k1 | k1
      ·rw [hrc] at k1; cases k1
      ·exact k1
     cases hxc2 : X c with
     | none => exact absurd hxc2 hxc
     | some C' => exact hs.apart b c B C' p q' hbc hB (hX c C' (on hrc) hxc2) h1 hrc ho
  ·rw [h2] at hB
   rcases side c q hq with ⟨k1, k2, k3⟩ | ⟨k1, k2⟩
   ·rw [k3] at hC
    intro e
    have hlt := hs.lt c q k1
    exact far c C q k1 k2 hC p.blk (hE.owns p.blk (by omega) ⟨b, B, p, hB, ho, hp, rfl⟩) e
   ·exact hs'.apart b c B C p q hbc hB (by rw [← k2]; exact hC) hp hq ho
theorem Ext.merge {ρ ρ' : Rho} {w w' : World} {G X X' G' : Blks} {nx nx' base : Nat} (hE : Ext ρ X nx w ρ' X' nx' w') (hb : base ≤ nx)
  (hX : ∀ b B, ρ b ≠ none → X b = some B → G b = some B) (hG1 : ∀ b, ρ b ≠ none → X b = none → G' b = G b) (hG2 : ∀ b, ρ' b ≠ none → (ρ b = none ∨ X b ≠ none) → G' b = X' b)
  (hun : ∀ b, b < base → ρ b = none → G' b = G b) : Ext ρ G base w ρ' G' nx' w' := by
 have on : ∀ {ρ : Rho} {b p}, ρ b = some p → ρ b ≠ none := fun q r => by rw [q] at r; cases r
 have owns : ∀ k, Owns ρ X k → Owns ρ G k := fun k ⟨b, B, p, q1, q2, q3, q4⟩ => ⟨b, B, p, hX b B (on q3) q1, q2, q3, q4⟩
 refine ⟨hE.le, hE.os, hE.tape, hE.output, hE.size, Nat.le_trans hb hE.nx, fun k hk ho => hE.keep k hk fun q => ho (owns k q), fun k hk ⟨b, B, p, q1, q2, q3, q4⟩ => ?_, fun b p q => (hE.new b p q).imp id fun q => ⟨Nat.le_trans hb q.1, q.2.imp id (owns _)⟩, hun⟩
 by_cases h : ρ b ≠ none ∧ X b = none
 ·rw [hG1 b h.1 h.2] at q1
  cases hr : ρ b with
  | none => exact absurd hr h.1
  | some p' =>
   have := hE.le b p' hr
   rw [q3] at this
   cases this
   exact ⟨b, B, p, q1, q2, hr, q4⟩
 ·have h' : ρ b = none ∨ X b ≠ none := by
   by_cases e : ρ b = none
   ·exact .inl e
   ·exact .inr fun e2 => h ⟨e, e2⟩
  rw [hG2 b (on q3) h'] at q1
  exact owns k (hE.owns k hk ⟨b, B, p, q1, q2, q3, q4⟩)
theorem look_op {P : Program} {call : ACallee} {ev : Operand → Value} {op : Op} (hc : cls P op = .look) {h : AH} {v : Value} (hl : aLook P ev op h = some v) : aOp P call ev op h = some (v, h) := by
 cases op <;> simp only [cls] at hc <;> try (cases hc; done)
 case load t x => simp only [aLook] at hl; simp [aOp, hl]
 case convert s d x =>
  split at hc
  ·rename_i hd
   simp only [aLook] at hl
   simp only [aOp]
   have : ∀ r, aConvert P s d (ev x) h = some r → r.2 = h := by
    intro r hr
    unfold aConvert at hr
    rw [hd] at hr
    split at hr
    ·rename_i hk _; simp at hk
    ·simp at hr; rw [← hr]
    ·rename_i hk _; simp at hk
    ·rename_i hk _; simp at hk
    ·split at hr
     ·simp at hr; rw [← hr]
     ·cases hr
    ·split at hr
     ·split at hr
      ·simp at hr; rw [← hr]
      ·rename_i n _ _ _ _ a
       revert hr
       cases h.cellsAt _ _ with
       | none => intro hr; cases hr
       | some cs =>
        intro hr
        simp at hr
        obtain ⟨bs, _, hr⟩ := hr
        rw [← hr]
     ·cases hr
    ·cases hr
   cases hr : aConvert P s d (ev x) h with
   | none => rw [hr] at hl; cases hl
   | some r =>
    rw [hr] at hl
    simp at hl
    obtain ⟨u, g⟩ := r
    have := this _ hr
    simp at this hl
    rw [this, hl]
  ·cases hc
  ·cases hc
 case call c => split at hc <;> cases hc
end Go.Proofs.Ytahcngeimlkcgaa.Am
