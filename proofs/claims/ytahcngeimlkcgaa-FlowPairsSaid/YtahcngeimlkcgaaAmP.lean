/- The abstract machine: the facts that a region's run in the text's order shows. -/
import Derived.Test.YtahcngeimlkcgaaAmN
namespace Go.Proofs.Ytahcngeimlkcgaa.Am
open Go
set_option linter.unusedVariables false
set_option linter.unusedSectionVars false
set_option linter.unusedSimpArgs false
section
variable {P : Program}
theorem draw_trace {call : ACallee} {ops : Array Oper} {base : Nat} : ∀ (os : List Oper) (i : Nat) (s sF : DSt), aDraw P call ops base i os s = some sF →
  ∃ st : Nat → DSt, st i = s ∧ st (i + os.length) = sF ∧ ∀ (k : Nat) o, os[k]? = some o →
   (aWanted ops (st (i + k)).e o = true ∧ aDrawOp P call ops.toList base (i + k) o (st (i + k)) = some (st (i + k + 1))) ∨
   (aWanted ops (st (i + k)).e o = false ∧ st (i + k + 1) = { st (i + k) with e := (st (i + k)).e.put o.dst undef }) := by
 intro os
 induction os with
 | nil => intro i s sF h; simp [aDraw] at h; subst h; exact ⟨fun _ => s, rfl, rfl, fun k o hk => by simp at hk⟩
 | cons o os ih =>
  intro i s sF h
  simp only [aDraw] at h
  have glue : ∀ s1, aDraw P call ops base (i + 1) os s1 = some sF →
    ((aWanted ops s.e o = true ∧ aDrawOp P call ops.toList base i o s = some s1) ∨ (aWanted ops s.e o = false ∧ s1 = { s with e := s.e.put o.dst undef })) →
    ∃ st : Nat → DSt, st i = s ∧ st (i + (o :: os).length) = sF ∧ ∀ (k : Nat) o', (o :: os)[k]? = some o' →
     (aWanted ops (st (i + k)).e o' = true ∧ aDrawOp P call ops.toList base (i + k) o' (st (i + k)) = some (st (i + k + 1))) ∨
     (aWanted ops (st (i + k)).e o' = false ∧ st (i + k + 1) = { st (i + k) with e := (st (i + k)).e.put o'.dst undef }) := by
   intro s1 h1 hstep
   obtain ⟨st, q1, q2, q3⟩ := ih (i + 1) s1 sF h1
   refine ⟨fun j => if j = i then s else st j, by simp, ?_, fun k o' hk => ?_⟩
   ·have : i + (o :: os).length ≠ i := by simp
    simp only [this, if_false]
    rw [← q2]; congr 1; simp; omega
   ·cases k with
    | zero =>
     simp at hk; subst hk
     have e1 : (i + 0 + 1 = i) = False := by simp
     simp only [Nat.add_zero, if_true, e1, if_false]
     have : (i + 1 = i) = False := by simp
     simp only [this, if_false, q1]
     exact hstep
    | succ k =>
     have := q3 k o' (by simpa using hk)
     have e1 : (i + (k + 1) = i) = False := by simp
     have e2 : (i + (k + 1) + 1 = i) = False := by simp; omega
     simp only [e1, e2, if_false]
     have e3 : i + (k + 1) = i + 1 + k := by omega
     rw [e3]
     exact this
  split at h
  ·rename_i hw
   cases ho : aDrawOp P call ops.toList base i o s with
   | none => rw [ho] at h; cases h
   | some s1 => rw [ho] at h; exact glue s1 h (.inl ⟨hw, ho⟩)
  ·rename_i hw
   exact glue _ h (.inr ⟨by simpa using hw, rfl⟩)
structure DFacts (P : Program) (call : ACallee) (ops : Array Oper) (base : Nat) (E : Nat → Env) (H : Nat → AH) (val : Nat → Value) : Prop where
 put : ∀ i o, ops.toList[i]? = some o → E (i + 1) = (E i).put o.dst (val i)
 off : ∀ i o, ops.toList[i]? = some o → aWanted ops (E i) o = false → val i = undef ∧ H (i + 1) = H i
 pure : ∀ i o, ops.toList[i]? = some o → aWanted ops (E i) o = true → cls P o.op = .pure → (∀ h2, aOp P call (E i).ev o.op h2 = some (val i, h2)) ∧ H (i + 1) = H i
 look : ∀ i o, ops.toList[i]? = some o → aWanted ops (E i) o = true → cls P o.op = .look → aLook P (E i).ev o.op (H i) = some (val i) ∧ H (i + 1) = H i
 fresh : ∀ i o, ops.toList[i]? = some o → aWanted ops (E i) o = true → cls P o.op = .fresh → ∃ f, aFresh P (E i).ev o.op = some f ∧ val i = f.1 (base + i) ∧ (H (i + 1)).next = (H i).next ∧ ∀ b, (H (i + 1)).blk b = if b = base + i then some ⟨f.2.1, true, f.2.2⟩ else (H i).blk b
 make : ∀ i o, ops.toList[i]? = some o → aWanted ops (E i) o = true → cls P o.op = .make → ∃ r, aOp P call (E i).ev o.op { H i with low := (H i).next } = some (val i, r) ∧ (∀ b, (H (i + 1)).blk b = r.blk b) ∧ (H (i + 1)).next = r.next ∧ Stay { H i with low := (H i).next } r
 eff : ∀ j o, ops.toList[j]? = some o → aWanted ops (E j) o = true → cls P o.op = .make → (∀ b, b < (H j).next → (H (j + 1)).blk b = (H j).blk b) ∨
  (∀ i oi, ops.toList[i]? = some oi → aWanted ops (E i) oi = true → cls P oi.op = .look → ordered (preds ops.toList) i j = false → (i < j → aLook P (E i).ev oi.op (H (j + 1)) = some (val i)) ∧ (j < i → aLook P (E i).ev oi.op (H j) = some (val i)))
theorem ordered_comm (ps : List Nat) (i j : Nat) : ordered ps i j = ordered ps j i := by simp [ordered, Bool.or_comm]
theorem draw_facts {call : ACallee} (hst : StayCall call) {ops : Array Oper} {base : Nat} {s sF : DSt} (h : aDraw P call ops base 0 ops.toList s = some sF) (hl : s.looks = []) (he : s.effs = []) :
  ∃ E H val, DFacts P call ops base E H val ∧ E 0 = s.e ∧ H 0 = s.h ∧ E ops.size = sF.e ∧ H ops.size = sF.h := by
 obtain ⟨st, h0, h1, h2⟩ := draw_trace ops.toList 0 s sF h
 have h2' : ∀ (i : Nat) o, ops.toList[i]? = some o → (aWanted ops (st i).e o = true ∧ aDrawOp P call ops.toList base i o (st i) = some (st (i + 1))) ∨ (aWanted ops (st i).e o = false ∧ st (i + 1) = { st i with e := (st i).e.put o.dst undef }) := by
  intro i o ho
  simpa using h2 i o ho
 let val : Nat → Value := fun i => match ops.toList[i]? with
  | none => undef
  | some o => if aWanted ops (st i).e o = true then (match cls P o.op with
    | .pure => ((aOp P call (st i).e.ev o.op (st i).h).map (·.1)).getD undef
    | .look => (aLook P (st i).e.ev o.op (st i).h).getD undef
    | .fresh => ((aFresh P (st i).e.ev o.op).map fun f => f.1 (base + i)).getD undef
    | .make => ((aOp P call (st i).e.ev o.op { (st i).h with low := (st i).h.next }).map (·.1)).getD undef) else undef
 -- one step, class by class
 have hoff : ∀ i o, ops.toList[i]? = some o → aWanted ops (st i).e o = false → st (i + 1) = { st i with e := (st i).e.put o.dst (val i) } ∧ val i = undef := by
  intro i o ho hw
  have ho' : ops[i]? = some o := by simpa using ho
  have hv : val i = undef := by simp [val, ho, ho', hw]
  rcases h2' i o ho with ⟨q, _⟩ | ⟨_, q⟩
  ·rw [hw] at q; cases q
  ·rw [hv]; exact ⟨q, rfl⟩
 have hpure : ∀ i o, ops.toList[i]? = some o → aWanted ops (st i).e o = true → cls P o.op = .pure → ∃ r, aOp P call (st i).e.ev o.op (st i).h = some r ∧ val i = r.1 ∧ st (i + 1) = { st i with e := (st i).e.put o.dst (val i) } := by
  intro i o ho hw hc
  rcases h2' i o ho with ⟨_, q⟩ | ⟨q, _⟩
  ·unfold aDrawOp at q
   rw [hc] at q
   simp only at q
   cases hr : aOp P call (st i).e.ev o.op (st i).h with
   | none => rw [hr] at q; cases q
   | some r =>
    rw [hr] at q
    have ho' : ops[i]? = some o := by simpa using ho
    have hv : val i = r.1 := by simp [val, ho, ho', hw, hc, hr]
    exact ⟨r, rfl, hv, by rw [hv]; exact (Option.some.inj q).symm⟩
  ·rw [hw] at q; cases q
 have hlook : ∀ i o, ops.toList[i]? = some o → aWanted ops (st i).e o = true → cls P o.op = .look → aLook P (st i).e.ev o.op (st i).h = some (val i) ∧ st (i + 1) = { st i with e := (st i).e.put o.dst (val i), looks := (i, (st i).e, val i) :: (st i).looks } ∧
   ∀ x ∈ (st i).effs, ordered (preds ops.toList) i x.1 = false → aLook P (st i).e.ev o.op x.2 = some (val i) := by
  intro i o ho hw hc
  rcases h2' i o ho with ⟨_, q⟩ | ⟨q, _⟩
  ·unfold aDrawOp at q
   rw [hc] at q
   simp only at q
   cases hr : aLook P (st i).e.ev o.op (st i).h with
   | none => rw [hr] at q; cases q
   | some v =>
    rw [hr] at q
    simp only [Option.bind_some] at q
    have ho' : ops[i]? = some o := by simpa using ho
    have hv : val i = v := by simp [val, ho, ho', hw, hc, hr]
    rw [hv]
    split at q
    ·rename_i hall
     refine ⟨rfl, (Option.some.inj q).symm, fun x hx hord => ?_⟩
     have := List.all_eq_true.1 hall x hx
     rw [hord, Bool.false_or] at this
     split at this
     ·rename_i u hu; rw [hu, sameV_eq this]
     ·cases this
    ·cases q
  ·rw [hw] at q; cases q
 have hfresh : ∀ i o, ops.toList[i]? = some o → aWanted ops (st i).e o = true → cls P o.op = .fresh → ∃ f, aFresh P (st i).e.ev o.op = some f ∧ val i = f.1 (base + i) ∧
   st (i + 1) = { st i with e := (st i).e.put o.dst (val i), h := { (st i).h with t := (st i).h.t.set (base + i) (some ⟨f.2.1, true, f.2.2⟩) } } := by
  intro i o ho hw hc
  rcases h2' i o ho with ⟨_, q⟩ | ⟨q, _⟩
  ·unfold aDrawOp at q
   rw [hc] at q
   simp only at q
   cases hr : aFresh P (st i).e.ev o.op with
   | none => rw [hr] at q; cases q
   | some f =>
    rw [hr] at q
    have ho' : ops[i]? = some o := by simpa using ho
    have hv : val i = f.1 (base + i) := by simp [val, ho, ho', hw, hc, hr]
    exact ⟨f, rfl, hv, by rw [hv]; exact (Option.some.inj q).symm⟩
  ·rw [hw] at q; cases q
 have hmake : ∀ i o, ops.toList[i]? = some o → aWanted ops (st i).e o = true → cls P o.op = .make → ∃ r, aOp P call (st i).e.ev o.op { (st i).h with low := (st i).h.next } = some (val i, r) ∧
   (st (i + 1)).e = (st i).e.put o.dst (val i) ∧ (∀ b, (st (i + 1)).h.blk b = r.blk b) ∧ (st (i + 1)).h.next = r.next ∧ (st (i + 1)).looks = (st i).looks ∧
   ((st (i + 1)).effs = (st i).effs ∧ (st i).h.next ≤ r.low ∨ (st (i + 1)).effs = (i, (st i).h) :: (st i).effs ∧
    ∀ x ∈ (st i).looks, ordered (preds ops.toList) i x.1 = false → aLook P x.2.1.ev (ops.toList.getD x.1 default).op (st (i + 1)).h = some x.2.2) := by
  intro i o ho hw hc
  rcases h2' i o ho with ⟨_, q⟩ | ⟨q, _⟩
  ·unfold aDrawOp at q
   rw [hc] at q
   simp only at q
   cases hr : aOp P call (st i).e.ev o.op { (st i).h with low := (st i).h.next } with
   | none => rw [hr] at q; cases q
   | some r =>
    obtain ⟨v, r⟩ := r
    rw [hr] at q
    simp only [Option.bind_some] at q
    have ho' : ops[i]? = some o := by simpa using ho
    have hv : val i = v := by simp [val, ho, ho', hw, hc, hr]
    rw [hv]
    refine ⟨r, rfl, ?_⟩
    have hblk : ∀ b, ({ r with low := if r.low < (st i).h.low then r.low else (st i).h.low } : AH).blk b = r.blk b := fun b => rfl
    have hnx : ({ r with low := if r.low < (st i).h.low then r.low else (st i).h.low } : AH).next = r.next := rfl
    revert q hblk hnx
    generalize ({ r with low := if r.low < (st i).h.low then r.low else (st i).h.low } : AH) = h3
    intro q hblk hnx
    split at q
    ·rename_i hlo
     have := Option.some.inj q
     rw [← this]
     exact ⟨rfl, hblk, hnx, rfl, .inl ⟨rfl, hlo⟩⟩
    ·split at q
     ·rename_i hall
      have := Option.some.inj q
      rw [← this]
      refine ⟨rfl, hblk, hnx, rfl, .inr ⟨rfl, fun x hx hord => ?_⟩⟩
      have h4 := List.all_eq_true.1 hall x hx
      rw [hord, Bool.false_or] at h4
      split at h4
      ·rename_i u hu; rw [hu, sameV_eq h4]
      ·cases h4
     ·cases q
  ·rw [hw] at q; cases q
 have hcase : ∀ c : Cls, c = .pure ∨ c = .look ∨ c = .fresh ∨ c = .make := by intro c; cases c <;> simp
 -- what has been seen stays in the lists
 have keepL : ∀ i o, ops.toList[i]? = some o → (∀ x ∈ (st i).looks, x ∈ (st (i + 1)).looks) ∧ (∀ x ∈ (st i).effs, x ∈ (st (i + 1)).effs) := by
  intro i o ho
  cases hw : aWanted ops (st i).e o with
  | false => rw [(hoff i o ho hw).1]; exact ⟨fun x q => q, fun x q => q⟩
  | true =>
   rcases hcase (cls P o.op) with hc | hc | hc | hc
   ·obtain ⟨r, _, _, q⟩ := hpure i o ho hw hc; rw [q]; exact ⟨fun x q => q, fun x q => q⟩
   ·obtain ⟨_, q, _⟩ := hlook i o ho hw hc; rw [q]; exact ⟨fun x q => List.mem_cons_of_mem _ q, fun x q => q⟩
   ·obtain ⟨f, _, _, q⟩ := hfresh i o ho hw hc; rw [q]; exact ⟨fun x q => q, fun x q => q⟩
   ·obtain ⟨r, _, _, _, _, q, q2⟩ := hmake i o ho hw hc
    refine ⟨fun x hx => by rw [q]; exact hx, fun x hx => ?_⟩
    rcases q2 with ⟨q2, _⟩ | ⟨q2, _⟩
    ·rw [q2]; exact hx
    ·rw [q2]; exact List.mem_cons_of_mem _ hx
 have keepLs : ∀ (d i : Nat), i + d ≤ ops.toList.length → (∀ x ∈ (st i).looks, x ∈ (st (i + d)).looks) ∧ (∀ x ∈ (st i).effs, x ∈ (st (i + d)).effs) := by
  intro d
  induction d with
  | zero => intro i _; exact ⟨fun x q => q, fun x q => q⟩
  | succ d ih =>
   intro i hi
   obtain ⟨k1, k2⟩ := keepL (i + d) _ (List.getElem?_eq_getElem (by omega))
   obtain ⟨m1, m2⟩ := ih i (by omega)
   exact ⟨fun x q => k1 x (m1 x q), fun x q => k2 x (m2 x q)⟩
 refine ⟨fun i => (st i).e, fun i => (st i).h, val, ⟨?_, ?_, ?_, ?_, ?_, ?_, ?_⟩, by simp only [h0], by simp only [h0], by simp [← h1], by simp [← h1]⟩
 ·intro i o ho
  cases hw : aWanted ops (st i).e o with
  | false => rw [(hoff i o ho hw).1]
  | true =>
   rcases hcase (cls P o.op) with hc | hc | hc | hc
   ·obtain ⟨r, _, _, q⟩ := hpure i o ho hw hc; rw [q]
   ·obtain ⟨_, q, _⟩ := hlook i o ho hw hc; rw [q]
   ·obtain ⟨f, _, _, q⟩ := hfresh i o ho hw hc; rw [q]
   ·obtain ⟨r, _, q, _⟩ := hmake i o ho hw hc; exact q
 ·intro i o ho hw
  obtain ⟨q1, q2⟩ := hoff i o ho hw
  exact ⟨q2, by simp only [q1]⟩
 ·intro i o ho hw hc
  obtain ⟨r, q1, q2, q3⟩ := hpure i o ho hw hc
  obtain ⟨_, q5⟩ := pure_still hc (v := r.1) (h' := r.2) q1
  exact ⟨fun h2 => by rw [q2]; exact q5 h2, by simp only [q3]⟩
 ·intro i o ho hw hc
  obtain ⟨q1, q2, _⟩ := hlook i o ho hw hc
  exact ⟨q1, by simp only [q2]⟩
 ·intro i o ho hw hc
  obtain ⟨f, q1, q2, q3⟩ := hfresh i o ho hw hc
  refine ⟨f, q1, q2, by simp only [q3], fun b => ?_⟩
  simp only [q3, AH.blk, Tr.get_set]
 ·intro i o ho hw hc
  obtain ⟨r, q1, q2, q3, q4, _⟩ := hmake i o ho hw hc
  exact ⟨r, q1, q3, q4, aOp_stay hst q1⟩
 ·intro j o ho hw hc
  obtain ⟨r, q1, q2, q3, q4, q5, q6⟩ := hmake j o ho hw hc
  rcases q6 with ⟨_, q7⟩ | ⟨q7, q8⟩
  ·left
   intro b hb
   show (st (j + 1)).h.blk b = _
   rw [q3 b]
   exact (aOp_stay hst q1).blk b hb (Nat.lt_of_lt_of_le hb q7)
  ·right
   intro i oi hoi hwi hci hord
   obtain ⟨l1, l2, l3⟩ := hlook i oi hoi hwi hci
   have hjn : j < ops.toList.length := (List.getElem?_eq_some_iff.1 ho).1
   have hin : i < ops.toList.length := (List.getElem?_eq_some_iff.1 hoi).1
   refine ⟨fun hij => ?_, fun hji => ?_⟩
   ·have hm : (i, (st i).e, val i) ∈ (st j).looks := by
     have := (keepLs (j - (i + 1)) (i + 1) (by omega)).1 (i, (st i).e, val i) (by rw [l2]; simp)
     rwa [show i + 1 + (j - (i + 1)) = j by omega] at this
    have := q8 _ hm (by rw [ordered_comm]; exact hord)
    have hg : ops.toList.getD i default = oi := by rw [List.getD_eq_getElem?_getD, hoi]; rfl
    simp only [hg] at this
    exact this
   ·have hm : (j, (st j).h) ∈ (st i).effs := by
     have := (keepLs (i - (j + 1)) (j + 1) (by omega)).2 (j, (st j).h) (by rw [q7]; simp)
     rwa [show j + 1 + (i - (j + 1)) = i by omega] at this
    exact l3 _ hm hord
end
end Go.Proofs.Ytahcngeimlkcgaa.Am
