/- The abstract machine: regions that draw, operation by operation; the whole. -/
import Derived.Test.YtahcngeimlkcgaaAmR
namespace Go.Proofs.Ytahcngeimlkcgaa.Am
open Go
variable [Marks]
set_option linter.unusedVariables false
set_option linter.unusedSectionVars false
set_option linter.unusedSimpArgs false
section
variable {P : Program} {call : ACallee} {ops : Array Oper} {n base : Nat} {E : Nat → Env} {H : Nat → AH} {val : Nat → Value}
variable {ρ0 : Rho} {blk0 : Blks} {w0 : World} {d0 : List Deferred} {D : Nat → Prop} {a : Act} {w : World} {ρ : Rho} {G : Blks} {c : Nat} {e : Env}
theorem Inv.agree (d : Dr P call ops n base E H val) (v : Inv P ops n base E H val ρ0 blk0 w0 d0 D a w ρ G c e) {i : Nat} (hci : c ≤ i) (hi : i < ops.size) (hno : ∀ j, c ≤ j → j < i → ¬ Mk P ops E j) :
  ∀ b, ρ b ≠ none → (b < base ∨ base + ops.size ≤ b ∨ (H i).blk b ≠ none ∨ ∃ f, b = base + f ∧ f < i) → G b = (H i).blk b := by
 intro b hb hc
 have hres : ∀ f, b = base + f → f < ops.size → f < i → G b = (H i).blk b := by
  rintro f rfl hf hfi
  have hD : D f := Classical.byContradiction fun q => hb (v.non f hf q).2
  by_cases hfc : f < c
  ·rw [v.inl f hD hfc]
   exact ((d.same' hci (by omega) hno).2 _ fun j q1 q2 => by omega).symm
  ·rw [v.inr f hD (by omega)]
   exact ((d.same' (i := f + 1) (by omega) (by omega) fun j q1 q2 => hno j (by omega) q2).2 _ fun j q1 q2 => by omega).symm
 have hout : (b < base ∨ base + ops.size ≤ b) → G b = (H i).blk b := fun h => by
  rw [v.out b h]
  exact ((d.same' hci (by omega) hno).2 _ fun j q1 q2 => by omega).symm
 by_cases h1 : b < base
 ·exact hout (.inl h1)
 by_cases h2 : base + ops.size ≤ b
 ·exact hout (.inr h2)
 rcases hc with hc | hc | hc | ⟨f, rfl, hf⟩
 ·exact absurd hc h1
 ·exact absurd hc h2
 ·have hb' : b = base + (b - base) := by omega
  refine hres (b - base) hb' (by omega) ?_
  refine Classical.byContradiction fun q => hc ?_
  rw [hb']
  exact d.dead (by omega) i (by omega)
 ·exact hres f rfl (by omega) hf
theorem Inv.part (d : Dr P call ops n base E H val) (v : Inv P ops n base E H val ρ0 blk0 w0 d0 D a w ρ G c e) {i : Nat} {o : Oper} (ho : ops.toList[i]? = some o) (hn : ¬ D i) (hp : ∀ j ∈ Pr ops.toList i, D j)
  (hm : ¬ Mk P ops E i) (hf : ¬ Fr P ops E i) {X : AH} (hnx : X.next = (H c).next) (hX : ∀ b, X.blk b = none ∨ X.blk b = G b) (hop : aOp P call (E i).ev o.op X = some (val i, X)) {Q : Exit → Act → World → Prop} {K : Act → World → Prop}
  (hK : ∀ a' w', (∃ ρ' G' c' e', Inv P ops n base E H val ρ0 blk0 w0 d0 (fun j => j = i ∨ D j) a' w' ρ' G' c' e') → K a' w') : o.wp P a w K Q := by
 have hi : i < ops.size := by simpa using (List.getElem?_eq_some_iff.1 ho).1
 have hlv := d.live c v.cle
 have hge := d.next_ge v.cle
 have hsub : ∀ b B, X.blk b = some B → G b = some B := fun b B q => by
  rcases hX b with q2 | q2
  ·rw [q] at q2; cases q2
  ·rw [← q2]; exact q
 have hGlive : ∀ b, G b ≠ none → b < (H c).next := v.sim.live
 have hs0 : Sim ρ w X.blk X.next := by
  rw [hnx]
  exact v.sim.less hsub
 refine aOp_wp d.good hs0 (v.ev d ho hn hp).1 hop fun ρ' u w' hu hs' hE => ?_
 have hG2 : ∀ b, ρ' b ≠ none → (ρ b = none ∨ X.blk b ≠ none) → G b = X.blk b := by
  rintro b hb (q | q)
  ·cases hr : ρ' b with
   | none => exact absurd hr hb
   | some p =>
    rcases hE.new b p hr with h1 | ⟨h1, _⟩
    ·rw [q] at h1; cases h1
    ·have h2 : G b = none := Classical.byContradiction fun q => by have := hGlive b q; omega
     have h3 : X.blk b = none := Classical.byContradiction fun q => by have := hs0.live b q; omega
     rw [h2, h3]
  ·rcases hX b with q2 | q2
   ·exact absurd q2 q
   ·exact q2.symm
 have hs2 : Sim ρ' w' G (H c).next := by
  rw [hnx] at hs' hE
  exact Sim.merge v.sim hs' hE (fun b B _ q => hsub b B q) (fun _ _ q => q) (fun _ _ _ => rfl) hG2 hGlive
 have hE2 : Ext ρ G base w ρ' G (H c).next w' := by
  rw [hnx] at hE
  exact hE.merge (by omega) (fun b B _ q => hsub b B q) (fun _ _ _ => rfl) hG2 (fun _ _ _ => rfl)
 exact hK _ _ ⟨ρ', G, c, _, v.still d ho hn hp hm hf hE.le hu hs2 hE2 fun f hlt hr => far_none (G := G) (G' := G) hE (by omega) hr⟩
theorem Inv.lookAt (d : Dr P call ops n base E H val) (v : Inv P ops n base E H val ρ0 blk0 w0 d0 D a w ρ G c e) {i : Nat} {o : Oper} (ho : ops.toList[i]? = some o) (hn : ¬ D i) (hp : ∀ j ∈ Pr ops.toList i, D j)
  (hw : aWanted ops (E i) o = true) (hc : cls P o.op = .look) (b0 : Nat) (hb0 : lookBlk (E i).ev o.op = some b0) (hρ : ρ b0 ≠ none) : ∃ k, k ≤ ops.size ∧ G b0 = (H k).blk b0 ∧ aLook P (E i).ev o.op (H k) = some (val i) := by
 have hi : i < ops.size := by simpa using (List.getElem?_eq_some_iff.1 ho).1
 obtain ⟨hl, _⟩ := d.facts.look i o ho hw hc
 have hlive : (H i).blk b0 ≠ none := look_live hc hl b0 hb0
 have hlt : b0 < (H c).next := by
  cases hr : ρ b0 with
  | none => exact absurd hr hρ
  | some p => exact v.sim.dom b0 p hr
 have dep : ∀ k m, (H k).blk b0 = (H m).blk b0 → aLook P (E i).ev o.op (H k) = some (val i) → aLook P (E i).ev o.op (H m) = some (val i) := fun k m h1 h2 => by
  rw [← h2]
  exact look_dep hc fun b hb => by rw [hb0] at hb; cases hb; exact h1.symm
 have hmk : ∀ j, j < ops.size → Mk P ops E j → j ≠ i → (∀ (_ : c ≤ j) (_ : j < i), ordered (preds ops.toList) i j = false) ∧ (∀ (_ : j < c) (_ : i < j), ordered (preds ops.toList) i j = false) := by
  intro j hj hm hne
  refine ⟨fun h1 h2 => ?_, fun h1 h2 => ?_⟩
  ·refine Bool.eq_false_iff.2 fun q => ?_
   rcases ordered_iff.1 q with q | q
   ·have := v.mkc j (hp j q) hm; omega
   ·have := Pr_lt d.back _ _ q; omega
  ·refine Bool.eq_false_iff.2 fun q => ?_
   rcases ordered_iff.1 q with q | q
   ·have := Pr_lt d.back _ _ q; omega
   ·exact hn (v.closed j i (v.mkd j h1 hm) q)
 -- forth
 have forth : ∀ m, i + m ≤ c → (∀ j, i ≤ j → j < i + m → b0 ≠ base + j) → aLook P (E i).ev o.op (H (i + m)) = some (val i) := by
  intro m
  induction m with
  | zero => intro _ _; exact hl
  | succ m ih =>
   intro hm hf
   have h1 := ih (by omega) fun j q1 q2 => hf j q1 (by omega)
   by_cases hk : Mk P ops E (i + m)
   ·obtain ⟨oj, hoj, hwj, hcj⟩ := hk
    have hne : i + m ≠ i := by
     rintro q
     rw [q, ho] at hoj
     cases hoj
     rw [hc] at hcj; cases hcj
    rcases d.facts.eff (i + m) oj hoj hwj hcj with q | q
    ·exact dep _ _ (q b0 (Nat.lt_of_lt_of_le (d.live i (by omega) b0 hlive) (d.next_le (by omega) (by have := v.cle; omega)))).symm h1
    ·exact (q i o ho hw hc ((hmk (i + m) (by have := v.cle; omega) ⟨oj, hoj, hwj, hcj⟩ hne).2 (by omega) (by omega))).1 (by omega)
   ·exact dep _ _ ((d.step (by have := v.cle; omega) hk).2.1 b0 (hf _ (by omega) (by omega))).symm h1
 -- back
 have back : ∀ m, m ≤ i → c ≤ i - m → (∀ j, i - m ≤ j → j < i → b0 ≠ base + j) → aLook P (E i).ev o.op (H (i - m)) = some (val i) := by
  intro m
  induction m with
  | zero => intro _ _ _; exact hl
  | succ m ih =>
   intro hm hcm hf
   have h1 := ih (by omega) (by omega) fun j q1 q2 => hf j (by omega) q2
   have e1 : i - m = i - (m + 1) + 1 := by omega
   rw [e1] at h1
   by_cases hk : Mk P ops E (i - (m + 1))
   ·obtain ⟨oj, hoj, hwj, hcj⟩ := hk
    rcases d.facts.eff _ oj hoj hwj hcj with q | q
    ·exact dep _ _ (q b0 (Nat.lt_of_lt_of_le hlt (d.next_le hcm (by omega)))) h1
    ·exact (q i o ho hw hc ((hmk _ (by omega) ⟨oj, hoj, hwj, hcj⟩ (by omega)).1 hcm (by omega))).2 (by omega)
   ·exact dep _ _ ((d.step (by omega) hk).2.1 b0 (hf _ (by omega) (by omega))) h1
 by_cases hres : base ≤ b0 ∧ b0 < base + ops.size
 ·obtain ⟨f, rfl⟩ : ∃ f, b0 = base + f := ⟨b0 - base, by omega⟩
  have hf : f < ops.size := by omega
  have hD : D f := Classical.byContradiction fun q => hρ (v.non f hf q).2
  have hfi : f < i := Classical.byContradiction fun q => hlive (d.dead hf i (by omega))
  by_cases hfc : f < c
  ·refine ⟨c, v.cle, v.inl f hD hfc, ?_⟩
   by_cases hic : i ≤ c
   ·have := forth (c - i) (by omega) fun j q1 q2 => by omega
    rwa [show i + (c - i) = c by omega] at this
   ·have := back (i - c) (by omega) (by omega) fun j q1 q2 => by omega
    rwa [show i - (i - c) = c by omega] at this
  ·refine ⟨f + 1, by omega, v.inr f hD (by omega), ?_⟩
   have := back (i - (f + 1)) (by omega) (by omega) fun j q1 q2 => by omega
   rwa [show i - (i - (f + 1)) = f + 1 by omega] at this
 ·refine ⟨c, v.cle, v.out b0 (by omega), ?_⟩
  have hcl := v.cle
  by_cases hic : i ≤ c
  ·have := forth (c - i) (by omega) fun j q1 q2 => by omega
   rwa [show i + (c - i) = c by omega] at this
  ·have := back (i - c) (by omega) (by omega) fun j q1 q2 => by omega
   rwa [show i - (i - c) = c by omega] at this
theorem Inv.row (d : Dr P call ops n base E H val) (v : Inv P ops n base E H val ρ0 blk0 w0 d0 D a w ρ G c e) {i : Nat} {o : Oper} (ho : ops.toList[i]? = some o) (hn : ¬ D i) (hp : ∀ j ∈ Pr ops.toList i, D j)
  (hw : aWanted ops (E i) o = true) (hc : cls P o.op = .fresh) {Q : Exit → Act → World → Prop} {K : Act → World → Prop}
  (hK : ∀ a' w', (∃ ρ' G' c' e', Inv P ops n base E H val ρ0 blk0 w0 d0 (fun j => j = i ∨ D j) a' w' ρ' G' c' e') → K a' w') : o.wp P a w K Q := by
 have hi : i < ops.size := by simpa using (List.getElem?_eq_some_iff.1 ho).1
 have hoo : opOk n o = true := d.ok o (List.mem_of_getElem? ho)
 obtain ⟨f, f1, f2, f3, f4⟩ := d.facts.fresh i o ho hw hc
 have hm : ¬ Mk P ops E i := by
  rintro ⟨o', q1, _, q3⟩
  rw [ho] at q1; cases q1
  rw [hc] at q3; cases q3
 obtain ⟨v', C, el, h1, h2, h3⟩ := fresh_run (P := P) (v.ev d ho hn hp).1 f1 w
 obtain ⟨g1, g2⟩ := v.non i hi hn
 have hge := d.next_ge v.cle
 have hid : base + i < (H c).next := by omega
 have hself : (H (i + 1)).blk (base + i) = some ⟨f.2.1, true, f.2.2⟩ := by rw [f4, if_pos rfl]
 obtain ⟨t1, t2⟩ := v.temps d ho hn hp
 have hle := Rle.upd ρ ⟨w.heap.size, 0, f.2.2, C.size⟩ g2
 have hS : Sim (upd ρ (base + i) ⟨w.heap.size, 0, f.2.2, C.size⟩) (w.alloc (.cells C el)) (updB G (base + i) (some ⟨f.2.1, true, f.2.2⟩)) (H c).next :=
  Sim.made (fr := (0, 0)) v.sim g2 hid (Nat.le_refl _) h2 (by simp) (fun k hk => heap_alloc_old w _ k hk) (heap_alloc_new w _) (fun i v hv => by simpa using hv) (Nat.le_refl _) (by have := h2.1; simp at this; omega) (.inl rfl)
 have hE : Ext ρ G base w (upd ρ (base + i) ⟨w.heap.size, 0, f.2.2, C.size⟩) (updB G (base + i) (some ⟨f.2.1, true, f.2.2⟩)) (H c).next (w.alloc (.cells C el)) :=
  Ext.made g2 (by omega) (by omega) rfl (by simp) (fun k hk => heap_alloc_old w _ k hk) rfl rfl rfl
 have other : ∀ k, k ≠ i → updB G (base + i) (some ⟨f.2.1, true, f.2.2⟩) (base + k) = G (base + k) := fun k hk => by simp only [updB]; rw [if_neg (by omega)]
 have own : updB G (base + i) (some ⟨f.2.1, true, f.2.2⟩) (base + i) = (H (i + 1)).blk (base + i) := by rw [hself]; simp [updB]
 refine wp_val h1 (hK _ _ ⟨_, _, c, e.put o.dst (val i), v.shut hp, fun k hk => ?_, v.cle, fun j hj hmj => ?_, fun j hj hmj => .inr (v.mkd j hj hmj), fun b hb => ?_, fun k hk hkc => ?_, fun k hk hkc => ?_, fun k hlt hk => ?_, fun k hlt hk hkc => ?_,
  (v.env.mono hle).put (opOk_dst hoo) ?_, t1, t2, hS, v.ext.trans' hE (Nat.le_refl _), by rw [put_defers]; exact v.defers⟩)
 ·rcases hk with rfl | hk
  ·exact hi
  ·exact v.dlt k hk
 ·rcases hj with rfl | hj
  ·exact absurd hmj hm
  ·exact v.mkc j hj hmj
 ·simp only [updB]
  rw [if_neg (by omega)]
  exact v.out b hb
 ·rcases hk with rfl | hk
  ·rw [own, v.unt k hi hn hkc]
  ·rw [other k (fun q => hn (q ▸ hk))]; exact v.inl k hk hkc
 ·rcases hk with rfl | hk
  ·exact own
  ·rw [other k (fun q => hn (q ▸ hk))]; exact v.inr k hk hkc
 ·have hne : k ≠ i := fun q => hk (.inl q)
  obtain ⟨q1, q2⟩ := v.non k hlt fun q => hk (.inr q)
  rw [other k hne]
  refine ⟨q1, ?_⟩
  simp only [upd]
  rw [if_neg (by omega)]
  exact q2
 ·exact v.unt k hlt (fun q => hk (.inr q)) hkc
 ·rw [f2]
  exact h3 _ _ hle (by simp [upd])
theorem Inv.makes (d : Dr P call ops n base E H val) (v : Inv P ops n base E H val ρ0 blk0 w0 d0 D a w ρ G c e) {i : Nat} {o : Oper} (ho : ops.toList[i]? = some o) (hn : ¬ D i) (hp : ∀ j ∈ Pr ops.toList i, D j)
  (hw : aWanted ops (E i) o = true) (hc : cls P o.op = .make) {Q : Exit → Act → World → Prop} {K : Act → World → Prop}
  (hK : ∀ a' w', (∃ ρ' G' c' e', Inv P ops n base E H val ρ0 blk0 w0 d0 (fun j => j = i ∨ D j) a' w' ρ' G' c' e') → K a' w') : o.wp P a w K Q := by
 have hi : i < ops.size := by simpa using (List.getElem?_eq_some_iff.1 ho).1
 have hoo : opOk n o = true := d.ok o (List.mem_of_getElem? ho)
 obtain ⟨r, f1, f2, f3, f4⟩ := d.facts.make i o ho hw hc
 have hmi : Mk P ops E i := ⟨o, ho, hw, hc⟩
 have hord : ∀ j, Mk P ops E j → j ≠ i → ordered (preds ops.toList) i j = true := by
  rintro j ⟨oj, q1, _, q3⟩ hne
  have h := d.made
  simp only [madeInOrder, List.all_eq_true, List.mem_filter, List.mem_range, decide_eq_true_eq] at h
  have := h i ⟨by simpa using hi, by rw [List.getD_eq_getElem?_getD, ho]; exact hc⟩ j ⟨(List.getElem?_eq_some_iff.1 q1).1, by rw [List.getD_eq_getElem?_getD, q1]; exact q3⟩
  simpa [Ne.symm hne] using this
 have hci : c ≤ i := Classical.byContradiction fun q => hn (v.mkd i (by omega) hmi)
 have hno : ∀ j, c ≤ j → j < i → ¬ Mk P ops E j := by
  intro j h1 h2 hm
  rcases ordered_iff.1 (hord j hm (by omega)) with q | q
  ·have := v.mkc j (hp j q) hm; omega
  ·have := Pr_lt d.back _ _ q; omega
 have hag := v.agree d hci hi hno
 obtain ⟨hnx, hsm⟩ := d.same' hci (by omega) hno
 have hge := d.next_ge v.cle
 have hs0 : Sim ρ w ({ H i with low := (H i).next } : AH).blk ({ H i with low := (H i).next } : AH).next := by
  show Sim ρ w (H i).blk (H i).next
  rw [hnx]
  refine v.sim.part (fun b B hb q => ?_) fun b q => ?_
  ·rw [hag b hb (.inr (.inr (.inl (by rw [q]; exact fun q => by cases q)))), q]
  ·rw [← hnx]; exact d.live i (by omega) b q
 refine aOp_wp d.good hs0 (v.ev d ho hn hp).1 f1 fun ρ' u w' hu hs' hE => ?_
 have hE : Ext ρ (H i).blk (H c).next w ρ' r.blk r.next w' := by rw [← hnx]; exact hE
 classical
 let G' : Blks := fun b => if base ≤ b ∧ b < base + ops.size ∧ (i < b - base ∨ (b - base ≠ i ∧ ¬ D (b - base))) then G b else r.blk b
 have e0 : ∀ f, base + f - base = f := fun f => by omega
 have G1 : ∀ f, f < ops.size → (i < f ∨ (f ≠ i ∧ ¬ D f)) → G' (base + f) = G (base + f) := fun f q1 q2 => by
  show (if _ then _ else _) = _
  rw [if_pos ⟨by omega, by omega, by rw [e0]; exact q2⟩]
 have G2 : ∀ b, ¬ (base ≤ b ∧ b < base + ops.size ∧ (i < b - base ∨ (b - base ≠ i ∧ ¬ D (b - base)))) → G' b = r.blk b := fun b q => by
  show (if _ then _ else _) = _
  rw [if_neg q]
 have hnone : ∀ f, f < ops.size → ¬ D f → ρ' (base + f) = none := fun f hf hD => far_none (G := G) (G' := G) hE (by omega) (v.non f hf hD).2
 have hback : ∀ b, ρ' b ≠ none → b < (H c).next → ρ b ≠ none := by
  intro b hb hlt hr
  exact hb (far_none (G := G) (G' := G) hE hlt hr)
 -- not yet made, and so not yet there
 have hlow : ∀ f, f < i → ¬ D f → (H i).blk (base + f) = (H (f + 1)).blk (base + f) := by
  intro f hfi hD
  by_cases hfc : f < c
  ·rw [← v.unt f (by omega) hD hfc]
   exact hsm _ fun j q1 q2 => by omega
  ·exact (d.same' (i := f + 1) (by omega) (by omega) fun j q1 q2 => hno j (by omega) q2).2 _ fun j q1 q2 => by omega
 have hX : ∀ b B, ρ b ≠ none → (H i).blk b = some B → G b = some B := fun b B hb q => by
  rw [hag b hb (.inr (.inr (.inl (by rw [q]; exact fun q => by cases q)))), q]
 have hdead : ∀ b, b < (H c).next → (H i).blk b = none → r.blk b = none := by
  intro b hb q
  rw [← f2]
  exact (d.mstep hmi).2.1 b (by omega) q
 have hG1 : ∀ b, ρ b ≠ none → (H i).blk b = none → G' b = G b := by
  intro b hb q
  by_cases hcase : base ≤ b ∧ b < base + ops.size ∧ (i < b - base ∨ (b - base ≠ i ∧ ¬ D (b - base)))
  ·show (if _ then _ else _) = _
   rw [if_pos hcase]
  ·have hblt : b < (H c).next := by
    cases hr : ρ b with
    | none => exact absurd hr hb
    | some p => exact v.sim.dom b p hr
   rw [G2 b hcase, hdead b hblt q]
   by_cases h1 : b < base
   ·rw [hag b hb (.inl h1), q]
   by_cases h2 : base + ops.size ≤ b
   ·rw [hag b hb (.inr (.inl h2)), q]
   have hfi : b - base ≠ i := fun e => hb (by
    have := (v.non i hi hn).2
    rwa [show base + i = b by omega] at this)
   rw [hag b hb (.inr (.inr (.inr ⟨b - base, by omega, by omega⟩))), q]
 have hG2 : ∀ b, ρ' b ≠ none → (ρ b = none ∨ (H i).blk b ≠ none) → G' b = r.blk b := by
  intro b hb q
  refine G2 b fun ⟨q1, q2, q3⟩ => ?_
  have h1 := hback b hb (by omega)
  have q3 : i < b - base := by
   refine q3.resolve_right fun q4 => h1 ?_
   have := (v.non (b - base) (by omega) q4.2).2
   rwa [show base + (b - base) = b by omega] at this
  rcases q with q | q
  ·exact h1 q
  ·have h2 := d.dead (f := b - base) (by omega) i (by omega)
   rw [show base + (b - base) = b by omega] at h2
   exact q h2
 have hl : ∀ b, G' b ≠ none → b < r.next := by
  intro b hb
  have hle : (H c).next ≤ r.next := hE.nx
  by_cases hcase : base ≤ b ∧ b < base + ops.size ∧ (i < b - base ∨ (b - base ≠ i ∧ ¬ D (b - base)))
  ·omega
  ·rw [G2 b hcase] at hb
   exact hs'.live b hb
 have hs2 := Sim.merge v.sim (by simpa [hnx] using hs') hE hX hdead hG1 hG2 hl
 have hE2 : Ext ρ G base w ρ' G' r.next w' := hE.merge (by omega) hX hG1 hG2 fun b hb hr => by
  rw [G2 b (by omega), hE.un b (by omega) hr, v.out b (.inl hb)]
  exact hsm b fun j q1 q2 => by omega
 obtain ⟨t1, t2⟩ := v.temps d ho hn hp
 refine hK _ _ ⟨ρ', G', i + 1, e.put o.dst (val i), v.shut hp, fun k hk => ?_, by omega, fun j hj hmj => ?_, fun j hj hmj => ?_, fun b hb => ?_, fun f hf hfc => ?_, fun f hf hfc => ?_, fun f hlt hf => ?_, fun f hlt hf hfc => ?_,
  (v.env.mono hE.le).put (opOk_dst hoo) hu, t1, t2, by rw [f3]; exact hs2, by rw [f3]; exact v.ext.trans' hE2 (Nat.le_refl _), by rw [put_defers]; exact v.defers⟩
 ·rcases hk with rfl | hk
  ·exact hi
  ·exact v.dlt k hk
 ·rcases hj with rfl | hj
  ·omega
  ·have := v.mkc j hj hmj; omega
 ·by_cases e1 : j = i
  ·exact .inl e1
  ·rcases ordered_iff.1 (hord j hmj e1) with q | q
   ·exact .inr (hp j q)
   ·have := Pr_lt d.back _ _ q; omega
 ·rw [G2 b (by omega), f2]
 ·rw [G2 _ (fun ⟨_, _, q⟩ => by
   rw [e0] at q
   rcases q with q | ⟨q1, q2⟩
   ·omega
   ·exact hf.elim q1 q2), f2]
 ·rcases hf with rfl | hf
  ·omega
  ·rw [G1 f (v.dlt f hf) (.inl (by omega))]
   exact v.inr f hf (by omega)
 ·have hD : ¬ D f := fun q => hf (.inr q)
  have hne : f ≠ i := fun q => hf (.inl q)
  refine ⟨?_, hnone f hlt hD⟩
  rw [G1 f hlt (.inr ⟨hne, hD⟩)]; exact (v.non f hlt hD).1
 ·have hD : ¬ D f := fun q => hf (.inr q)
  have hne : f ≠ i := fun q => hf (.inl q)
  rw [f2, hE.un _ (by omega) (v.non f hlt hD).2]
  exact hlow f (by omega) hD
theorem look_named {P : Program} {ρ : Rho} {ev ev' : Operand → Value} {op : Op} (hc : cls P op = .look) {h : AH} {v : Value} (hl : aLook P ev op h = some v) (hops : ∀ x ∈ op.operands, VR ρ (ev x) (ev' x)) {b : Nat} (hb : lookBlk ev op = some b) : ρ b ≠ none := by
 cases op <;> simp only [cls] at hc <;> try (cases hc; done)
 case load t x =>
  have hx := hops x (by simp [Op.operands])
  simp only [lookBlk] at hb
  split at hb
  ·rename_i a ha
   simp at hb; subst hb
   rw [ha] at hx
   generalize ev' x = y at hx
   cases hx with
   | ptr h => obtain ⟨_, p, h2, _⟩ := h; rw [h2]; exact fun q => by cases q
  ·cases hb
 case convert s d x =>
  have hx := hops x (by simp [Op.operands])
  simp only [lookBlk] at hb
  split at hb
  ·rename_i a n c ha
   split at hb
   ·cases hb
   ·rename_i h0
    simp at hb; subst hb
    rw [ha] at hx
    generalize ev' x = y at hx
    cases hx with
    | sl h1 h2 h3 h4 => obtain ⟨_, p, h2, _⟩ := h3 (by omega); rw [h2]; exact fun q => by cases q
  ·cases hb
 case call c => split at hc <;> cases hc
theorem Inv.step (d : Dr P call ops n base E H val) {i : Nat} {o : Oper} (v : Inv P ops n base E H val ρ0 blk0 w0 d0 D a w ρ G c e) (ho : ops[i]? = some o) (hn : ¬ D i) (hp : ∀ j ∈ Pr ops.toList i, D j) {Q : Exit → Act → World → Prop} {K : Act → World → Prop}
  (hK : ∀ a' w', (∃ ρ' G' c' e', Inv P ops n base E H val ρ0 blk0 w0 d0 (fun j => j = i ∨ D j) a' w' ρ' G' c' e') → K a' w') : wpOp P ops Q i K a w := by
 have ho2 : ops.toList[i]? = some o := by rw [Array.getElem?_toList]; exact ho
 have hi : i < ops.size := by simpa using (List.getElem?_eq_some_iff.1 ho2).1
 have hoo : opOk n o = true := d.ok o (List.mem_of_getElem? ho2)
 have same : ∀ {cl : Cls}, cls P o.op = cl → cl ≠ .make → ¬ Mk P ops E i := by
  rintro cl h1 h2 ⟨o', q1, _, q3⟩
  rw [ho2] at q1; cases q1
  rw [h1] at q3; exact h2 q3
 have same2 : ∀ {cl : Cls}, cls P o.op = cl → cl ≠ .fresh → ¬ Fr P ops E i := by
  rintro cl h1 h2 ⟨o', q1, _, q3⟩
  rw [ho2] at q1; cases q1
  rw [h1] at q3; exact h2 q3
 unfold wpOp
 rw [ho]
 simp only
 rw [wanted_same v.env d.ok o, ← (v.ev d ho2 hn hp).2]
 cases hw : aWanted ops (E i) o with
 | false =>
  rw [if_neg (by simp)]
  have hm : ¬ Mk P ops E i := by
   rintro ⟨o', q1, q2, _⟩
   rw [ho2] at q1; cases q1
   rw [hw] at q2; cases q2
  have hf : ¬ Fr P ops E i := by
   rintro ⟨o', q1, q2, _⟩
   rw [ho2] at q1; cases q1
   rw [hw] at q2; cases q2
  have hv := (d.facts.off i o ho2 hw).1
  exact hK _ _ ⟨ρ, G, c, _, v.still d ho2 hn hp hm hf (Rle.refl _) (by rw [hv]; exact VR.undef ρ) v.sim
   ⟨Rle.refl _, rfl, rfl, rfl, Nat.le_refl _, by have := d.next_ge v.cle; omega, fun _ _ _ => rfl, fun _ _ h => h, fun _ _ h => .inl h, fun _ _ _ => rfl⟩ fun _ _ h => h⟩
 | true =>
  rw [if_pos rfl]
  have hcase : ∀ c : Cls, c = .pure ∨ c = .look ∨ c = .fresh ∨ c = .make := by intro c; cases c <;> simp
  rcases hcase (cls P o.op) with hc | hc | hc | hc
  ·refine .inl (v.part d ho2 hn hp (same hc (by simp)) (same2 hc (by simp)) (X := ⟨.nil, (H c).next, (H c).next⟩) rfl (fun b => .inl (by simp [AH.blk, Tr.get])) ((d.facts.pure i o ho2 hw hc).1 _) hK)
  ·cases hb : lookBlk (E i).ev o.op with
   | none =>
    have hl := (d.facts.look i o ho2 hw hc).1
    rw [look_dep hc (h' := ⟨.nil, (H c).next, (H c).next⟩) fun b hb2 => by rw [hb] at hb2; cases hb2] at hl
    exact .inl (v.part d ho2 hn hp (same hc (by simp)) (same2 hc (by simp)) (X := ⟨.nil, (H c).next, (H c).next⟩) rfl (fun b => .inl (by simp [AH.blk, Tr.get])) (look_op hc hl) hK)
   | some b0 =>
    have hρ : ρ b0 ≠ none := by
     have hops := (v.ev d ho2 hn hp).1
     have hl := (d.facts.look i o ho2 hw hc).1
     exact look_named hc hl hops hb
    obtain ⟨k, hk, h1, h2⟩ := v.lookAt d ho2 hn hp hw hc b0 hb hρ
    have hX : ∀ b, (⟨(Tr.nil).set b0 (G b0), (H c).next, (H c).next⟩ : AH).blk b = if b = b0 then G b0 else none := by
     intro b
     simp only [AH.blk, Tr.get_set]
     simp [Tr.get]
    have hl : aLook P (E i).ev o.op ⟨(Tr.nil).set b0 (G b0), (H c).next, (H c).next⟩ = some (val i) := by
     rw [← h2]
     refine look_dep hc fun b hb2 => ?_
     rw [hb] at hb2; cases hb2
     rw [hX, if_pos rfl, h1]
    refine .inl (v.part d ho2 hn hp (same hc (by simp)) (same2 hc (by simp)) (X := ⟨(Tr.nil).set b0 (G b0), (H c).next, (H c).next⟩) rfl (fun b => ?_) (look_op hc hl) hK)
    rw [hX]
    by_cases e1 : b = b0
    ·subst e1; rw [if_pos rfl]; exact .inr rfl
    ·rw [if_neg e1]; exact .inl rfl
  ·exact .inl (v.row d ho2 hn hp hw hc hK)
  ·exact .inl (v.makes d ho2 hn hp hw hc hK)
theorem draw_ok (hm : P.follows .mixedOrders = true) {call : ACallee} (hgood : Good P call) (hst : StayCall call) : DrawOk P call := by
 intro n id ops e e' h h' ρ a w hok hd hr he hs hl
 unfold aRegionD at hr
 cases hq : aDraw P call ops h.next 0 ops.toList ⟨e, { h with next := h.next + ops.size }, [], []⟩ with
 | none => rw [hq] at hr; cases hr
 | some s =>
  rw [hq] at hr
  simp at hr
  obtain ⟨rfl, rfl⟩ := hr
  obtain ⟨E, H, val, hf, e0, h0, e1, h1⟩ := draw_facts hst hq rfl rfl
  simp only [drawOk, Bool.and_eq_true] at hd
  have d : Dr P call ops n h.next E H val := ⟨hgood, hok, hf, hd.1.1, hd.1.2, hd.2, by rw [h0], fun b hb => hl b (by rw [h0] at hb; exact hb)⟩
  refine wp_region_any hm ?_
  have hrow : ∀ f, f < ops.size → ρ (h.next + f) = none := by
   intro f _
   cases hr : ρ (h.next + f) with
   | none => rfl
   | some p => have := hs.dom _ p hr; omega
  refine wpAny_inv hd.2 (fun D a' w' => ∃ ρ' G' c' e', Inv P ops n h.next E H val ρ h.blk w a.defers D a' w' ρ' G' c' e') ?_ ?_ ops.size _ a _ (by simp) ?_ ?_
  ·rintro D i o a' w' ⟨ρ', G', c', e', v⟩ ho hn hall K hK
   refine v.step d ho hn (fun j hj => ?_) hK
   obtain ⟨ed, hed, hb, hc⟩ := Pr_spec (by rw [Array.getElem?_toList]; exact ho) hj
   have := hall ed hed hb
   rcases hc with rfl | ⟨_, hc⟩
   ·exact this
   ·exact v.closed _ _ this hc
  ·rintro D a' w' ⟨ρ', G', c', e', v⟩ hall
   have hno : ∀ j, c' ≤ j → j < ops.size → ¬ Mk P ops E j := fun j q1 q2 q3 => by have := v.mkc j (hall j q2) q3; omega
   obtain ⟨g1, g2⟩ := d.same' v.cle (Nat.le_refl _) hno
   have hG : G' = (H ops.size).blk := by
    funext b
    by_cases hres : h.next ≤ b ∧ b < h.next + ops.size
    ·obtain ⟨f, rfl⟩ : ∃ f, b = h.next + f := ⟨b - h.next, by omega⟩
     have hf : f < ops.size := by omega
     by_cases hfc : f < c'
     ·rw [v.inl f (hall f hf) hfc]
      exact (g2 _ fun j q1 q2 => by omega).symm
     ·rw [v.inr f (hall f hf) (by omega)]
      exact ((d.same' (i := f + 1) (by omega) (Nat.le_refl _) fun j q1 q2 => hno j (by omega) q2).2 _ fun j q1 q2 => by omega).symm
    ·rw [v.out b (by omega)]
     exact (g2 _ fun j q1 q2 => by omega).symm
   have hE : ∀ t, e'.get t = (E ops.size).get t := by
    intro t
    obtain ⟨k1, k2⟩ := d.env t ops.size (Nat.le_refl _)
    by_cases hex : ∃ j, j < ops.size ∧ Wr ops j t
    ·obtain ⟨j, m1, m2, m3⟩ := greatest (fun j => Wr ops j t) ops.size hex
     rw [k2 j m1 m2 m3]
     exact v.w1 t j (hall j m1) m2 fun k hk hw => Classical.byContradiction fun q => m3 k (by omega) (v.dlt k hk) hw
    ·rw [k1 fun j hj hw => hex ⟨j, hj, hw⟩]
     exact v.w2 t fun j hj hw => hex ⟨j, v.dlt j hj, hw⟩
   have hS := v.sim
   have hX := v.ext
   rw [hG, ← g1] at hS hX
   rw [← e1, ← h1]
   exact ⟨rfl, ρ', ⟨v.env.size, fun t => by rw [← hE t]; exact v.env.get t⟩, v.defers, hS, hX⟩
  ·unfold leftOf
   exact Nat.le_trans (List.length_filter_le _ _) (by simp)
  ·have hD : Dn (Array.replicate ops.size false) = fun _ => False := by
    funext j
    unfold Dn
    rw [Array.getD_eq_getD_getElem?]
    by_cases hj : j < ops.size
    ·simp [hj]
    ·rw [Array.getElem?_eq_none (by simpa using Nat.le_of_not_lt hj)]; simp
   rw [hD]
   have hblk : (H 0).blk = h.blk := by rw [h0]; rfl
   have hnx : (H 0).next = h.next + ops.size := by rw [h0]
   refine ⟨ρ, h.blk, 0, e, fun _ _ q => q.elim, fun _ q => q.elim, Nat.zero_le _, fun _ q => q.elim, fun j q => by omega, fun b _ => by rw [hblk], fun _ q => q.elim, fun _ q => q.elim, fun f hf _ => ⟨?_, hrow f hf⟩, fun _ _ _ q => by omega, ⟨he.size, he.get⟩, fun _ _ q => q.elim, fun t _ => by rw [e0], ?_, ?_, rfl⟩
   ·exact Classical.byContradiction fun q => by have := hl _ q; omega
   ·rw [hnx]
    exact ⟨fun b p q => Nat.lt_of_lt_of_le (hs.dom b p q) (by omega), hs.lt, (hs.world (w' := { w with drawn := w.drawn + 1 }) rfl).cell, (hs.world (w' := { w with drawn := w.drawn + 1 }) rfl).own, hs.apart, fun b q => Nat.lt_of_lt_of_le (hs.live b q) (by omega)⟩
   ·rw [hnx]
    exact ⟨Rle.refl _, rfl, rfl, rfl, Nat.le_refl _, by omega, fun _ _ _ => rfl, fun _ _ h => h, fun _ _ h => .inl h, fun _ _ _ => rfl⟩
end
end Go.Proofs.Ytahcngeimlkcgaa.Am
