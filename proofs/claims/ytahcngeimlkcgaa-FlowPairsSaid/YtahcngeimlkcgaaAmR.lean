/- The abstract machine: regions that draw: every order that the model may draw ends as the text's order does. -/
import Derived.Test.YtahcngeimlkcgaaAmQ
namespace Go.Proofs.Ytahcngeimlkcgaa.Am
open Go
variable [Marks]
set_option linter.unusedVariables false
set_option linter.unusedSectionVars false
set_option linter.unusedSimpArgs false
structure Dr (P : Program) (call : ACallee) (ops : Array Oper) (n base : Nat) (E : Nat → Env) (H : Nat → AH) (val : Nat → Value) : Prop where
 good : Good P call
 ok : ∀ o ∈ ops.toList, opOk n o = true
 facts : DFacts P call ops base E H val
 made : madeInOrder P ops.toList = true
 apart : apartOk ops.toList = true
 back : backOk ops.toList = true
 next0 : (H 0).next = base + ops.size
 live0 : ∀ b, (H 0).blk b ≠ none → b < base
section
variable {P : Program} {call : ACallee} {ops : Array Oper} {n base : Nat} {E : Nat → Env} {H : Nat → AH} {val : Nat → Value}
def Mk (P : Program) (ops : Array Oper) (E : Nat → Env) (i : Nat) : Prop := ∃ o, ops.toList[i]? = some o ∧ aWanted ops (E i) o = true ∧ cls P o.op = .make
def Fr (P : Program) (ops : Array Oper) (E : Nat → Env) (i : Nat) : Prop := ∃ o, ops.toList[i]? = some o ∧ aWanted ops (E i) o = true ∧ cls P o.op = .fresh
theorem Mk.lt {i : Nat} (h : Mk P ops E i) : i < ops.size := by
 obtain ⟨o, h1, _⟩ := h
 simpa using (List.getElem?_eq_some_iff.1 h1).1
theorem at_of {i : Nat} (h : i < ops.size) : ∃ o, ops.toList[i]? = some o := ⟨_, List.getElem?_eq_getElem (by simpa using h)⟩
theorem Dr.step (d : Dr P call ops n base E H val) {i : Nat} (hi : i < ops.size) (hm : ¬ Mk P ops E i) :
  (H (i + 1)).next = (H i).next ∧ (∀ b, b ≠ base + i → (H (i + 1)).blk b = (H i).blk b) ∧ (¬ Fr P ops E i → ∀ b, (H (i + 1)).blk b = (H i).blk b) := by
 obtain ⟨o, ho⟩ := at_of hi
 cases hw : aWanted ops (E i) o with
 | false => rw [(d.facts.off i o ho hw).2]; exact ⟨rfl, fun _ _ => rfl, fun _ _ => rfl⟩
 | true =>
  have hcase : ∀ c : Cls, c = .pure ∨ c = .look ∨ c = .fresh ∨ c = .make := by intro c; cases c <;> simp
  rcases hcase (cls P o.op) with hc | hc | hc | hc
  ·rw [(d.facts.pure i o ho hw hc).2]; exact ⟨rfl, fun _ _ => rfl, fun _ _ => rfl⟩
  ·rw [(d.facts.look i o ho hw hc).2]; exact ⟨rfl, fun _ _ => rfl, fun _ _ => rfl⟩
  ·obtain ⟨f, _, _, h1, h2⟩ := d.facts.fresh i o ho hw hc
   exact ⟨h1, fun b hb => by rw [h2, if_neg hb], fun hf => absurd ⟨o, ho, hw, hc⟩ hf⟩
  ·exact absurd ⟨o, ho, hw, hc⟩ hm
theorem Dr.mstep (d : Dr P call ops n base E H val) {i : Nat} (hm : Mk P ops E i) :
  (H i).next ≤ (H (i + 1)).next ∧ (∀ b, b < (H i).next → (H i).blk b = none → (H (i + 1)).blk b = none) ∧ ((∀ b, (H i).blk b ≠ none → b < (H i).next) → ∀ b, (H (i + 1)).blk b ≠ none → b < (H (i + 1)).next) := by
 obtain ⟨o, ho, hw, hc⟩ := hm
 obtain ⟨r, _, h1, h2, h3⟩ := d.facts.make i o ho hw hc
 refine ⟨by rw [h2]; exact h3.next, fun b hb q => by rw [h1]; exact h3.dead b hb q, fun hl b hb => ?_⟩
 rw [h2]
 exact h3.live hl b (by rw [← h1]; exact hb)
theorem Dr.nextLe (d : Dr P call ops n base E H val) {i : Nat} : ∀ (m : Nat), i + m ≤ ops.size → (H i).next ≤ (H (i + m)).next := by
 intro m
 induction m with
 | zero => intro _; exact Nat.le_refl _
 | succ m ih =>
  intro h
  refine Nat.le_trans (ih (by omega)) ?_
  by_cases hm : Mk P ops E (i + m)
  ·exact (d.mstep hm).1
  ·exact Nat.le_of_eq (d.step (by omega) hm).1.symm
theorem Dr.next_le (d : Dr P call ops n base E H val) {i k : Nat} (h : i ≤ k) (hk : k ≤ ops.size) : (H i).next ≤ (H k).next := by
 have := d.nextLe (i := i) (k - i) (by omega)
 rwa [show i + (k - i) = k by omega] at this
theorem Dr.next_ge (d : Dr P call ops n base E H val) {k : Nat} (hk : k ≤ ops.size) : base + ops.size ≤ (H k).next := by
 rw [← d.next0]; exact d.next_le (Nat.zero_le k) hk
theorem Dr.live (d : Dr P call ops n base E H val) : ∀ (k : Nat), k ≤ ops.size → ∀ b, (H k).blk b ≠ none → b < (H k).next := by
 intro k
 induction k with
 | zero => intro _ b hb; rw [d.next0]; exact Nat.lt_of_lt_of_le (d.live0 b hb) (by omega)
 | succ k ih =>
  intro hk b hb
  by_cases hm : Mk P ops E k
  ·exact (d.mstep hm).2.2 (ih (by omega)) b hb
  ·obtain ⟨h1, h2, h3⟩ := d.step (by omega) hm
   rw [h1]
   by_cases e : b = base + k
   ·have := d.next_ge (k := k) (by omega); omega
   ·exact ih (by omega) b (by rw [← h2 b e]; exact hb)
theorem Dr.dead (d : Dr P call ops n base E H val) {f : Nat} (hf : f < ops.size) : ∀ (k : Nat), k ≤ f → (H k).blk (base + f) = none := by
 intro k
 induction k with
 | zero =>
  intro _
  cases h : (H 0).blk (base + f) with
  | none => rfl
  | some B => have := d.live0 (base + f) (by rw [h]; exact fun q => by cases q); omega
 | succ k ih =>
  intro hk
  by_cases hm : Mk P ops E k
  ·refine (d.mstep hm).2.1 _ ?_ (ih (by omega))
   have := d.next_ge (k := k) (by omega); omega
  ·rw [(d.step (by omega) hm).2.1 _ (by omega)]; exact ih (by omega)
theorem Dr.same (d : Dr P call ops n base E H val) {i : Nat} : ∀ (m : Nat), i + m ≤ ops.size → (∀ j, i ≤ j → j < i + m → ¬ Mk P ops E j) →
  (H (i + m)).next = (H i).next ∧ ∀ b, (∀ j, i ≤ j → j < i + m → b ≠ base + j) → (H (i + m)).blk b = (H i).blk b := by
 intro m
 induction m with
 | zero => intro _ _; exact ⟨rfl, fun _ _ => rfl⟩
 | succ m ih =>
  intro h hn
  obtain ⟨h1, h2⟩ := ih (by omega) fun j a b => hn j a (by omega)
  obtain ⟨g1, g2, _⟩ := d.step (i := i + m) (by omega) (hn _ (by omega) (by omega))
  exact ⟨g1.trans h1, fun b hb => (g2 b (hb _ (by omega) (by omega))).trans (h2 b fun j p q => hb j p (by omega))⟩
theorem Dr.same' (d : Dr P call ops n base E H val) {i k : Nat} (h : i ≤ k) (hk : k ≤ ops.size) (hn : ∀ j, i ≤ j → j < k → ¬ Mk P ops E j) :
  (H k).next = (H i).next ∧ ∀ b, (∀ j, i ≤ j → j < k → b ≠ base + j) → (H k).blk b = (H i).blk b := by
 have := d.same (i := i) (k - i) (by omega) (fun j a b => hn j a (by omega))
 rw [show i + (k - i) = k by omega] at this
 exact this
theorem Dr.quiet (d : Dr P call ops n base E H val) {i : Nat} (hi : i < ops.size) (hm : ¬ Mk P ops E i) (hf : ¬ Fr P ops E i) : (H (i + 1)).blk (base + i) = none := by
 rw [(d.step hi hm).2.2 hf]; exact d.dead hi i (Nat.le_refl _)
def Wr (ops : Array Oper) (j t : Nat) : Prop := ∃ o, ops.toList[j]? = some o ∧ o.dst = some t
theorem Wr.lt {j t : Nat} (h : Wr ops j t) : j < ops.size := by
 obtain ⟨o, h1, _⟩ := h
 simpa using (List.getElem?_eq_some_iff.1 h1).1
theorem put_get (e : Env) (d : Option Nat) (v : Value) (t : Nat) : (e.put d v).get t = if d = some t then v else e.get t := by
 cases d with
 | none => simp [Env.put]
 | some d =>
  simp only [Env.put, Env.get_set]
  by_cases h : t = d
  ·subst h; simp
  ·rw [if_neg h, if_neg (fun q => h (by simpa using q.symm))]
theorem Dr.env (d : Dr P call ops n base E H val) (t : Nat) : ∀ (k : Nat), k ≤ ops.size → ((∀ j, j < k → ¬ Wr ops j t) → (E k).get t = (E 0).get t) ∧ (∀ j, j < k → Wr ops j t → (∀ m, j < m → m < k → ¬ Wr ops m t) → (E k).get t = val j) := by
 intro k
 induction k with
 | zero => intro _; exact ⟨fun _ => rfl, fun j h => by omega⟩
 | succ k ih =>
  intro hk
  obtain ⟨o, ho⟩ := at_of (show k < ops.size by omega)
  obtain ⟨h1, h2⟩ := ih (by omega)
  rw [d.facts.put k o ho, put_get]
  refine ⟨fun hn => ?_, fun j hj hw hn => ?_⟩
  ·rw [if_neg fun q => hn k (by omega) ⟨o, ho, q⟩]
   exact h1 fun j hj => hn j (by omega)
  ·by_cases e : j = k
   ·subst e
    obtain ⟨o', q1, q2⟩ := hw
    rw [ho] at q1; cases q1
    rw [if_pos q2]
   ·rw [if_neg fun q => hn k (by omega) (by omega) ⟨o, ho, q⟩]
    exact h2 j (by omega) hw fun m a b => hn m a (by omega)
structure Inv (P : Program) (ops : Array Oper) (n base : Nat) (E : Nat → Env) (H : Nat → AH) (val : Nat → Value) (ρ0 : Rho) (blk0 : Blks) (w0 : World) (d0 : List Deferred)
  (D : Nat → Prop) (a : Act) (w : World) (ρ : Rho) (G : Blks) (c : Nat) (e : Env) : Prop where
 closed : ∀ i j, D i → j ∈ Pr ops.toList i → D j
 dlt : ∀ i, D i → i < ops.size
 cle : c ≤ ops.size
 mkc : ∀ j, D j → Mk P ops E j → j < c
 mkd : ∀ j, j < c → Mk P ops E j → D j
 out : ∀ b, (b < base ∨ base + ops.size ≤ b) → G b = (H c).blk b
 inl : ∀ f, D f → f < c → G (base + f) = (H c).blk (base + f)
 inr : ∀ f, D f → c ≤ f → G (base + f) = (H (f + 1)).blk (base + f)
 non : ∀ f, f < ops.size → ¬ D f → G (base + f) = none ∧ ρ (base + f) = none
 unt : ∀ f, f < ops.size → ¬ D f → f < c → (H c).blk (base + f) = (H (f + 1)).blk (base + f)
 env : EnvR ρ e n a
 w1 : ∀ t j, D j → Wr ops j t → (∀ k, D k → Wr ops k t → k ≤ j) → e.get t = val j
 w2 : ∀ t, (∀ j, D j → ¬ Wr ops j t) → e.get t = (E 0).get t
 sim : Sim ρ w G (H c).next
 ext : Ext ρ0 blk0 base w0 ρ G (H c).next w
 defers : a.defers = d0
variable {ρ0 : Rho} {blk0 : Blks} {w0 : World} {d0 : List Deferred} {D : Nat → Prop} {a : Act} {w : World} {ρ : Rho} {G : Blks} {c : Nat} {e : Env}
theorem Inv.temp (d : Dr P call ops n base E H val) (v : Inv P ops n base E H val ρ0 blk0 w0 d0 D a w ρ G c e) {i : Nat} (hi : i < ops.size) (hn : ¬ D i) (hp : ∀ j ∈ Pr ops.toList i, D j)
  {t : Nat} (ht : ∀ j, Wr ops j t → j ≠ i → ordered (preds ops.toList) i j = true) : e.get t = (E i).get t := by
 have hiff : ∀ j, Wr ops j t → (D j ↔ j < i) := by
  intro j hj
  by_cases e : j = i
  ·subst e; exact ⟨fun q => absurd q hn, fun q => absurd q (by omega)⟩
  ·rcases ordered_iff.1 (ht j hj e) with q | q
   ·have := Pr_lt d.back _ _ q
    exact ⟨fun _ => this, fun _ => hp j q⟩
   ·have := Pr_lt d.back _ _ q
    exact ⟨fun q2 => absurd (v.closed j i q2 q) hn, fun q2 => by omega⟩
 obtain ⟨h1, h2⟩ := d.env t i (by omega)
 by_cases hex : ∃ j, j < i ∧ Wr ops j t
 ·obtain ⟨j, g1, g2, g3⟩ := greatest (fun j => Wr ops j t) i hex
  rw [h2 j g1 g2 g3]
  exact v.w1 t j ((hiff j g2).2 g1) g2 fun k hk hw => by
   have := (hiff k hw).1 hk
   exact Classical.byContradiction fun q => g3 k (by omega) this hw
 ·rw [h1 fun j hj hw => hex ⟨j, hj, hw⟩]
  exact v.w2 t fun j hj hw => hex ⟨j, (hiff j hw).1 hj, hw⟩
theorem apart_at (d : Dr P call ops n base E H val) {i j : Nat} {oi oj : Oper} (hi : ops.toList[i]? = some oi) (hj : ops.toList[j]? = some oj) (hne : i ≠ j) (ho : ordered (preds ops.toList) i j = false) :
  (∀ t, oi.dst = some t → oj.dst ≠ some t) ∧ (∀ t, oj.dst = some t → t ∉ oi.looksAt ops) := by
 have h := d.apart
 simp only [apartOk, List.all_eq_true, List.mem_range] at h
 have hil := (List.getElem?_eq_some_iff.1 hi).1
 have hjl := (List.getElem?_eq_some_iff.1 hj).1
 by_cases hlt : j < i
 ·have := h i hil j hlt
  rw [List.getD_eq_getElem?_getD, List.getD_eq_getElem?_getD, hi, hj, ho] at this
  obtain ⟨_, h2, h3⟩ := apart1_spec (by simpa using this)
  exact ⟨h2, h3⟩
 ·have := h j hjl i (by omega)
  rw [List.getD_eq_getElem?_getD, List.getD_eq_getElem?_getD, hi, hj, ordered_comm, ho] at this
  obtain ⟨h1, h2, _⟩ := apart1_spec (by simpa using this)
  exact ⟨fun t q1 q2 => h2 t q2 q1, h1⟩
theorem Inv.reads (d : Dr P call ops n base E H val) (v : Inv P ops n base E H val ρ0 blk0 w0 d0 D a w ρ G c e) {i : Nat} {o : Oper} (ho : ops.toList[i]? = some o) (hn : ¬ D i) (hp : ∀ j ∈ Pr ops.toList i, D j) :
  ∀ t ∈ o.looksAt ops, e.get t = (E i).get t := by
 intro t ht
 refine v.temp d (by simpa using (List.getElem?_eq_some_iff.1 ho).1) hn hp fun j ⟨oj, hj, hd⟩ hne => ?_
 refine Classical.byContradiction fun q => ?_
 have := (apart_at d ho hj (Ne.symm hne) (by simpa using q)).2 t hd
 exact this ht
theorem Inv.ev (d : Dr P call ops n base E H val) (v : Inv P ops n base E H val ρ0 blk0 w0 d0 D a w ρ G c e) {i : Nat} {o : Oper} (ho : ops.toList[i]? = some o) (hn : ¬ D i) (hp : ∀ j ∈ Pr ops.toList i, D j) :
  (∀ x ∈ o.op.operands, VR ρ ((E i).ev x) (a.eval x)) ∧ aWanted ops (E i) o = aWanted ops e o := by
 have hr := v.reads d ho hn hp
 have hoo : opOk n o = true := d.ok o (List.mem_of_getElem? ho)
 refine ⟨fun x hx => ?_, ?_⟩
 ·have := v.env.ev (opOk_ops hoo x hx)
  have he : (E i).ev x = e.ev x := by
   cases x with
   | tmp t =>
    simp only [Env.ev]
    refine (hr t ?_).symm
    unfold Oper.looksAt
    rw [List.mem_append]
    exact .inl (List.mem_filterMap.2 ⟨.tmp t, by simpa using hx, rfl⟩)
   | const _ => rfl
   | global _ => rfl
   | func _ => rfl
  rw [he]; exact this
 ·unfold aWanted
  cases hg : o.guard with
  | none => rfl
  | some g =>
   obtain ⟨j, want⟩ := g
   simp only
   have : aYield ops (E i) j = aYield ops e j := by
    unfold aYield
    cases hd : (ops[j]?).bind (·.dst) with
    | none => rfl
    | some t =>
     simp only
     rw [hr t (by unfold Oper.looksAt; rw [List.mem_append]; right; simp [hg, hd])]
   rw [this]
theorem Inv.temps (d : Dr P call ops n base E H val) (v : Inv P ops n base E H val ρ0 blk0 w0 d0 D a w ρ G c e) {i : Nat} {o : Oper} (ho : ops.toList[i]? = some o) (hn : ¬ D i) (hp : ∀ j ∈ Pr ops.toList i, D j) :
  (∀ t j, (j = i ∨ D j) → Wr ops j t → (∀ k, (k = i ∨ D k) → Wr ops k t → k ≤ j) → (e.put o.dst (val i)).get t = val j) ∧ (∀ t, (∀ j, (j = i ∨ D j) → ¬ Wr ops j t) → (e.put o.dst (val i)).get t = (E 0).get t) := by
 have before : ∀ t, o.dst = some t → ∀ j, D j → Wr ops j t → j < i := by
  intro t ht j hj ⟨oj, h1, h2⟩
  have hne : i ≠ j := fun e => hn (e ▸ hj)
  cases hord : ordered (preds ops.toList) i j with
  | false => exact absurd h2 ((apart_at d ho h1 hne hord).1 t ht)
  | true =>
   rcases ordered_iff.1 hord with q | q
   ·exact Pr_lt d.back _ _ q
   ·exact absurd (v.closed j i hj q) hn
 refine ⟨fun t j hj hw hk => ?_, fun t ht => ?_⟩
 ·rw [put_get]
  by_cases hd : o.dst = some t
  ·rw [if_pos hd]
   rcases hj with rfl | hj
   ·rfl
   ·have h1 := before t hd j hj hw
    have h2 := hk i (.inl rfl) ⟨o, ho, hd⟩
    omega
  ·rw [if_neg hd]
   rcases hj with rfl | hj
   ·obtain ⟨o', q1, q2⟩ := hw
    rw [ho] at q1; cases q1
    exact absurd q2 hd
   ·exact v.w1 t j hj hw fun k q => hk k (.inr q)
 ·rw [put_get, if_neg fun q => ht i (.inl rfl) ⟨o, ho, q⟩]
  exact v.w2 t fun j hj => ht j (.inr hj)
theorem Inv.shut (v : Inv P ops n base E H val ρ0 blk0 w0 d0 D a w ρ G c e) {i : Nat} (hp : ∀ j ∈ Pr ops.toList i, D j) : ∀ k j, (k = i ∨ D k) → j ∈ Pr ops.toList k → (j = i ∨ D j) := by
 rintro k j (rfl | hk) hj
 ·exact .inr (hp j hj)
 ·exact .inr (v.closed k j hk hj)
theorem far_none {G G' X X' : Blks} {nx nx' : Nat} {ρ ρ' : Rho} {w w' : World} (hE : Ext ρ X nx w ρ' X' nx' w') {b : Nat} (hb : b < nx) (hr : ρ b = none) : ρ' b = none := by
 cases h : ρ' b with
 | none => rfl
 | some p =>
  rcases hE.new b p h with q | q
  ·rw [hr] at q; cases q
  ·omega
theorem Inv.still (d : Dr P call ops n base E H val) (v : Inv P ops n base E H val ρ0 blk0 w0 d0 D a w ρ G c e) {i : Nat} {o : Oper} (ho : ops.toList[i]? = some o) (hn : ¬ D i) (hp : ∀ j ∈ Pr ops.toList i, D j)
  (hm : ¬ Mk P ops E i) (hf : ¬ Fr P ops E i) {ρ' : Rho} {w' : World} {u : Value} (hle : Rle ρ ρ') (hu : VR ρ' (val i) u) (hs : Sim ρ' w' G (H c).next) (hE : Ext ρ G base w ρ' G (H c).next w')
  (hnew : ∀ f, f < ops.size → ρ (base + f) = none → ρ' (base + f) = none) : Inv P ops n base E H val ρ0 blk0 w0 d0 (fun j => j = i ∨ D j) (a.put o.dst u) w' ρ' G c (e.put o.dst (val i)) := by
 have hi : i < ops.size := by simpa using (List.getElem?_eq_some_iff.1 ho).1
 have hoo : opOk n o = true := d.ok o (List.mem_of_getElem? ho)
 obtain ⟨t1, t2⟩ := v.temps d ho hn hp
 have hq := d.quiet hi hm hf
 obtain ⟨g1, g2⟩ := v.non i hi hn
 refine ⟨v.shut hp, fun k hk => ?_, v.cle, fun j hj hmj => ?_, fun j hj hmj => .inr (v.mkd j hj hmj), v.out, fun f hf hc => ?_, fun f hf hc => ?_, fun f hlt hf => ?_, fun f hlt hf hc => ?_, (v.env.mono hle).put (opOk_dst hoo) hu, t1, t2, hs, v.ext.trans' hE (Nat.le_refl _), by rw [put_defers]; exact v.defers⟩
 ·rcases hk with rfl | hk
  ·exact hi
  ·exact v.dlt k hk
 ·rcases hj with rfl | hj
  ·exact absurd hmj hm
  ·exact v.mkc j hj hmj
 ·rcases hf with rfl | hf
  ·rw [g1, v.unt f hi hn hc, hq]
  ·exact v.inl f hf hc
 ·rcases hf with rfl | hf
  ·rw [g1, hq]
  ·exact v.inr f hf hc
 ·obtain ⟨q1, q2⟩ := v.non f hlt fun q => hf (.inr q)
  exact ⟨q1, hnew f hlt q2⟩
 ·exact v.unt f hlt (fun q => hf (.inr q)) hc
end
end Go.Proofs.Ytahcngeimlkcgaa.Am
