/- Steps in regions that draw. -/
import Derived.Test.YtdajldmgdpggkaaSyE
namespace Go.Proofs.Ytdajldmgdpggkaa.Sy
open Go Am
open Cell (rc)
set_option linter.unusedVariables false
set_option linter.unusedSectionVars false
set_option linter.unusedSimpArgs false

/-- An operation without its order: its guard, its class, and whether all that look stand in order to it. -/
structure COpD where
  g : Option (Option Nat × Bool)
  d : Option Nat
  op : Op
  cl : Cls
  eo : Bool
  lo : Bool
def effOk (P : Program) (ops : List Oper) (ps : List Nat) (i : Nat) : Bool := (List.range ops.length).all fun j => !decide (cls P (ops.getD j default).op = .look) || ordered ps i j
def lookOk (P : Program) (ops : List Oper) (ps : List Nat) (i : Nat) : Bool := (List.range ops.length).all fun j => !decide (cls P (ops.getD j default).op = .make) || ordered ps i j
def stripD (P : Program) (ops : Array Oper) (ps : List Nat) : Nat → List Oper → List COpD
  | _, [] => []
  | i, o :: os => ⟨o.guard.map fun x => ((ops[x.1]?).bind (·.dst), x.2), o.dst, o.op, cls P o.op, effOk P ops.toList ps i, lookOk P ops.toList ps i⟩ :: stripD P ops ps (i + 1) os
def regOfD (P : Program) : Code → Option (List COpD)
  | .region _ ops true => some (stripD P ops (preds ops.toList) 0 ops.toList)
  | _ => none
/-- What an operation that looks sees hangs on elder blocks alone. -/
def Stab (P : Program) (base : Nat) (h : AH) (ev : Operand → Value) (op : Op) (v : Value) : Prop := sameV v v = true ∧ ∀ h2 : AH, (∀ b, b < base → h2.blk b = h.blk b) → aLook P ev op h2 = some v
/-- 'nb': a block that is new in this region has been changed, not in order to all that look; 'ls': all looks so far are in order to all changes, or hang on elder blocks alone. -/
def wpDE (P : Program) (base : Nat) : Bool → Bool → Nat → List COpD → Env → AH → (Env → AH → Prop) → Prop
  | _, _, _, [], e, h, K => K e h
  | nb, ls, i, o :: os, e, h, K =>
    let step : Prop := match o.cl with
      | .pure => ∃ v h', aOp P (callI P) e.ev o.op h = some (v, h') ∧ wpDE P base nb ls (i + 1) os (e.put o.d v) h K
      | .look => ∃ v, aLook P e.ev o.op h = some v ∧ (((o.lo = true ∨ Stab P base h e.ev o.op v) ∧ wpDE P base nb ls (i + 1) os (e.put o.d v) h K) ∨ (nb = false ∧ wpDE P base nb false (i + 1) os (e.put o.d v) h K))
      | .fresh => ∃ f, aFresh P e.ev o.op = some f ∧ wpDE P base nb ls (i + 1) os (e.put o.d (f.1 (base + i))) { h with t := h.t.set (base + i) (some ⟨f.2.1, true, f.2.2⟩) } K
      | .make => ∃ v h1, aOp P (callI P) e.ev o.op { h with low := h.next } = some (v, h1) ∧
          ((h.next ≤ h1.low ∧ wpDE P base nb ls (i + 1) os (e.put o.d v) { h1 with low := if h1.low < h.low then h1.low else h.low } K) ∨
           (o.eo = true ∧ nb = false ∧ wpDE P base nb false (i + 1) os (e.put o.d v) { h1 with low := if h1.low < h.low then h1.low else h.low } K) ∨
           (base ≤ h1.low ∧ ls = true ∧ wpDE P base true ls (i + 1) os (e.put o.d v) { h1 with low := if h1.low < h.low then h1.low else h.low } K))
    match o.g with
    | none => step
    | some (t, w) => ∃ j, t = some j ∧ ((e.get j = .bool w ∧ step) ∨ (e.get j ≠ .bool w ∧ wpDE P base nb ls (i + 1) os (e.put o.d undef) h K))
section
variable {P : Program}
theorem ordered_comm (ps : List Nat) (i j : Nat) : ordered ps i j = ordered ps j i := by unfold ordered; rw [Bool.or_comm]
theorem effOk_at {ops : List Oper} {ps : List Nat} {i j : Nat} (h : effOk P ops ps i = true) (hj : j < ops.length) (hl : cls P (ops.getD j default).op = .look) : ordered ps i j = true := by
  have := List.all_eq_true.1 h j (List.mem_range.2 hj)
  rw [hl] at this
  simpa using this
theorem lookOk_at {ops : List Oper} {ps : List Nat} {i j : Nat} (h : lookOk P ops ps i = true) (hj : j < ops.length) (hl : cls P (ops.getD j default).op = .make) : ordered ps i j = true := by
  have := List.all_eq_true.1 h j (List.mem_range.2 hj)
  rw [hl] at this
  simpa using this
theorem callI_stay : StayCall (callI P) := by
  intro f a h v h' hh
  obtain ⟨k, hk⟩ := of_callI hh
  exact aCall_stay (P := P) (fun f a h v h' hh => by cases hh) k f a h v h' hk
structure DInv (P : Program) (ops : Array Oper) (base : Nat) (nb ls : Bool) (h : AH) (looks : List (Nat × Env × Value)) (effs : List (Nat × AH)) : Prop where
  bn : base ≤ h.next
  look : ∀ x ∈ looks, x.1 < ops.toList.length ∧ cls P (ops.toList.getD x.1 default).op = .look
  stab : ls = true → ∀ x ∈ looks, lookOk P ops.toList (preds ops.toList) x.1 = true ∨ Stab P base h x.2.1.ev (ops.toList.getD x.1 default).op x.2.2
  eff : ∀ x ∈ effs, x.1 < ops.toList.length ∧ cls P (ops.toList.getD x.1 default).op = .make
  old : ∀ x ∈ effs, effOk P ops.toList (preds ops.toList) x.1 = true ∨ (nb = true ∧ ∀ b, b < base → x.2.blk b = h.blk b)
theorem Stab.same {base : Nat} {h h' : AH} {ev : Operand → Value} {op : Op} {v : Value} (hs : Stab P base h ev op v) (hh : ∀ b, b < base → h'.blk b = h.blk b) : Stab P base h' ev op v :=
  ⟨hs.1, fun h2 q => hs.2 h2 fun b hb => (q b hb).trans (hh b hb)⟩
theorem DInv.same {ops : Array Oper} {base : Nat} {nb ls : Bool} {h h' : AH} {looks : List (Nat × Env × Value)} {effs : List (Nat × AH)} (hd : DInv P ops base nb ls h looks effs) (hn : base ≤ h'.next) (hh : ∀ b, b < base → h'.blk b = h.blk b) : DInv P ops base nb ls h' looks effs where
  bn := hn
  look := hd.look
  stab hl x hx := (hd.stab hl x hx).imp id fun q => q.same hh
  eff := hd.eff
  old x hx := (hd.old x hx).imp id fun q => ⟨q.1, fun b hb => (q.2 b hb).trans (hh b hb).symm⟩
theorem wpDE_run {ops : Array Oper} {base : Nat} : ∀ (os : List Oper) (i : Nat) {nb ls : Bool} {e : Env} {h : AH} {K : Env → AH → Prop} {looks : List (Nat × Env × Value)} {effs : List (Nat × AH)},
    ops.toList.drop i = os → DInv P ops base nb ls h looks effs →
    wpDE P base nb ls i (stripD P ops (preds ops.toList) i os) e h K → ∃ s, aDraw P (callI P) ops base i os ⟨e, h, looks, effs⟩ = some s ∧ K s.e s.h := by
  intro os
  induction os with
  | nil => intro i nb ls e h K looks effs hd hI hw; exact ⟨_, rfl, hw⟩
  | cons o os ih =>
    intro i nb ls e h K looks effs hd hI hw
    have hi : ops.toList[i]? = some o := by
      have : (ops.toList.drop i)[0]? = some o := by rw [hd]; rfl
      rw [List.getElem?_drop] at this; simpa using this
    have hil : i < ops.toList.length := by
      rcases Nat.lt_or_ge i ops.toList.length with q | q
      · exact q
      · rw [List.getElem?_eq_none q] at hi; cases hi
    have hgd : ops.toList.getD i default = o := by rw [List.getD_eq_getElem?_getD, hi]; rfl
    have hd' : ops.toList.drop (i + 1) = os := by
      have := congrArg List.tail hd
      rw [List.tail_drop] at this; exact this
    simp only [stripD, wpDE] at hw
    simp only [aDraw]
    have main : (match cls P o.op with
      | .pure => ∃ v h', aOp P (callI P) e.ev o.op h = some (v, h') ∧ wpDE P base nb ls (i + 1) (stripD P ops (preds ops.toList) (i + 1) os) (e.put o.dst v) h K
      | .look => ∃ v, aLook P e.ev o.op h = some v ∧ (((lookOk P ops.toList (preds ops.toList) i = true ∨ Stab P base h e.ev o.op v) ∧ wpDE P base nb ls (i + 1) (stripD P ops (preds ops.toList) (i + 1) os) (e.put o.dst v) h K) ∨ (nb = false ∧ wpDE P base nb false (i + 1) (stripD P ops (preds ops.toList) (i + 1) os) (e.put o.dst v) h K))
      | .fresh => ∃ f, aFresh P e.ev o.op = some f ∧ wpDE P base nb ls (i + 1) (stripD P ops (preds ops.toList) (i + 1) os) (e.put o.dst (f.1 (base + i))) { h with t := h.t.set (base + i) (some ⟨f.2.1, true, f.2.2⟩) } K
      | .make => ∃ v h1, aOp P (callI P) e.ev o.op { h with low := h.next } = some (v, h1) ∧
          ((h.next ≤ h1.low ∧ wpDE P base nb ls (i + 1) (stripD P ops (preds ops.toList) (i + 1) os) (e.put o.dst v) { h1 with low := if h1.low < h.low then h1.low else h.low } K) ∨
           (effOk P ops.toList (preds ops.toList) i = true ∧ nb = false ∧ wpDE P base nb false (i + 1) (stripD P ops (preds ops.toList) (i + 1) os) (e.put o.dst v) { h1 with low := if h1.low < h.low then h1.low else h.low } K) ∨
           (base ≤ h1.low ∧ ls = true ∧ wpDE P base true ls (i + 1) (stripD P ops (preds ops.toList) (i + 1) os) (e.put o.dst v) { h1 with low := if h1.low < h.low then h1.low else h.low } K))) →
      ∃ s, (aDrawOp P (callI P) ops.toList base i o ⟨e, h, looks, effs⟩).bind (fun s' => aDraw P (callI P) ops base (i + 1) os s') = some s ∧ K s.e s.h := by
      intro hs
      unfold aDrawOp
      cases hc : cls P o.op with
      | pure =>
        rw [hc] at hs
        obtain ⟨v, h', h1, h2⟩ := hs
        simp only [h1, Option.map_some, Option.bind_some]
        exact ih (i + 1) hd' hI h2
      | look =>
        rw [hc] at hs
        obtain ⟨v, h1, h2⟩ := hs
        simp only [h1, Option.bind_some]
        have hnew : ∀ x ∈ (i, e, v) :: looks, x.1 < ops.toList.length ∧ cls P (ops.toList.getD x.1 default).op = .look := fun x hx => by
          rcases List.mem_cons.1 hx with rfl | hx
          · exact ⟨hil, by rw [hgd]; exact hc⟩
          · exact hI.look x hx
        rw [if_pos (List.all_eq_true.2 fun x hx => by
          rcases hI.old x hx with q | ⟨q1, q2⟩
          · have := effOk_at q hil (by rw [hgd]; exact hc)
            rw [ordered_comm, this]; rfl
          · rcases h2 with ⟨h2, _⟩ | ⟨h2, _⟩
            · rcases h2 with h2 | h2
              · obtain ⟨e1, e2⟩ := hI.eff x hx
                rw [lookOk_at h2 e1 e2]; rfl
              · rw [h2.2 x.2 q2]
                simp only [h2.1, Bool.or_true]
            · rw [h2] at q1; cases q1)]
        simp only [Option.bind_some]
        rcases h2 with ⟨h2, h3⟩ | ⟨h2, h3⟩
        · refine ih (i + 1) hd' ⟨hI.bn, hnew, fun hl x hx => ?_, hI.eff, hI.old⟩ h3
          rcases List.mem_cons.1 hx with rfl | hx
          · rw [hgd]; exact h2
          · exact hI.stab hl x hx
        · exact ih (i + 1) hd' ⟨hI.bn, hnew, fun hl => (by cases hl), hI.eff, hI.old⟩ h3
      | fresh =>
        rw [hc] at hs
        obtain ⟨f, h1, h2⟩ := hs
        simp only [h1, Option.map_some, Option.bind_some]
        refine ih (i + 1) hd' (hI.same hI.bn fun b hb => ?_) h2
        exact (Tr.get_set _ _ _ _).trans (if_neg (by omega))
      | make =>
        rw [hc] at hs
        obtain ⟨v, h1, q1, q2⟩ := hs
        simp only [q1, Option.bind_some]
        have hstay := aOp_stay (callI_stay (P := P)) q1
        have hbn : base ≤ h1.next := Nat.le_trans hI.bn hstay.next
        have hlookmk : cls P (ops.toList.getD i default).op = .make := by rw [hgd]; exact hc
        by_cases hlow : h.next ≤ h1.low
        · rw [if_pos hlow]
          simp only [Option.bind_some]
          have hsame : ∀ b, b < base → h1.blk b = h.blk b := fun b hb => hstay.blk b (Nat.lt_of_lt_of_le hb hI.bn) (Nat.lt_of_lt_of_le hb (Nat.le_trans hI.bn hlow))
          have hI' : DInv P ops base nb ls { h1 with low := if h1.low < h.low then h1.low else h.low } looks effs := hI.same hbn hsame
          rcases q2 with ⟨_, q3⟩ | ⟨_, _, q3⟩ | ⟨_, _, q3⟩
          · exact ih (i + 1) hd' hI' q3
          · exact ih (i + 1) hd' ⟨hI'.bn, hI'.look, fun hl => (by cases hl), hI'.eff, hI'.old⟩ q3
          · exact ih (i + 1) hd' ⟨hI'.bn, hI'.look, hI'.stab, hI'.eff, fun x hx => (hI'.old x hx).imp id fun q => ⟨rfl, q.2⟩⟩ q3
        · rw [if_neg hlow]
          rcases q2 with ⟨q2, _⟩ | ⟨heo, hnb, q3⟩ | ⟨hbl, hls, q3⟩
          · exact absurd q2 hlow
          · rw [if_pos (List.all_eq_true.2 fun x hx => by
              obtain ⟨y1, y2⟩ := hI.look x hx
              rw [effOk_at heo y1 y2]; rfl)]
            simp only [Option.bind_some]
            refine ih (i + 1) hd' ⟨hbn, hI.look, fun hl => (by cases hl), fun x hx => ?_, fun x hx => ?_⟩ q3
            · rcases List.mem_cons.1 hx with rfl | hx
              · exact ⟨hil, hlookmk⟩
              · exact hI.eff x hx
            · rcases List.mem_cons.1 hx with rfl | hx
              · exact .inl heo
              · rcases hI.old x hx with q | ⟨q, _⟩
                · exact .inl q
                · rw [hnb] at q; cases q
          · have hsame : ∀ b, b < base → h1.blk b = h.blk b := fun b hb => hstay.blk b (Nat.lt_of_lt_of_le hb hI.bn) (Nat.lt_of_lt_of_le hb hbl)
            have hI' : DInv P ops base nb ls { h1 with low := if h1.low < h.low then h1.low else h.low } looks effs := hI.same hbn hsame
            rw [if_pos (List.all_eq_true.2 fun x hx => by
              rcases hI'.stab hls x hx with q | q
              · rw [ordered_comm, lookOk_at q hil hlookmk]; rfl
              · rw [q.2 _ fun _ _ => rfl]
                simp only [q.1, Bool.or_true])]
            simp only [Option.bind_some]
            refine ih (i + 1) hd' ⟨hbn, hI.look, hI'.stab, fun x hx => ?_, fun x hx => ?_⟩ q3
            · rcases List.mem_cons.1 hx with rfl | hx
              · exact ⟨hil, hlookmk⟩
              · exact hI.eff x hx
            · rcases List.mem_cons.1 hx with rfl | hx
              · exact .inr ⟨rfl, fun b hb => (hsame b hb).symm⟩
              · exact (hI'.old x hx).imp id fun q => ⟨rfl, q.2⟩
    cases hg : o.guard with
    | none =>
      rw [hg] at hw
      simp only [Option.map_none] at hw
      have hwn : aWanted ops e o = true := by simp only [aWanted, hg]
      rw [if_pos hwn]
      exact main hw
    | some g =>
      obtain ⟨j0, w⟩ := g
      rw [hg] at hw
      simp only [Option.map_some] at hw
      obtain ⟨j, hj, hw⟩ := hw
      have hy : aWanted ops e o = true ↔ e.get j = .bool w := wanted_iff hg hj
      rcases hw with ⟨hb, hw⟩ | ⟨hb, hw⟩
      · rw [if_pos (hy.2 hb)]
        exact main hw
      · rw [if_neg (fun q => hb (hy.1 q))]
        exact ih (i + 1) hd' hI hw
theorem stripD_length {ops : Array Oper} {ps : List Nat} : ∀ (os : List Oper) (i : Nat), (stripD P ops ps i os).length = os.length := by
  intro os
  induction os with
  | nil => intro i; rfl
  | cons o os ih => intro i; simp only [stripD, List.length_cons, ih]
/-- What is left of a region that draws. -/
def wpRD (P : Program) (R : List COpD) (base : Nat) (nb ls : Bool) (k : Nat) (l : KL) (h : AH) (K : KL → AH → Prop) : Prop := ∀ e, EnvIs e l → wpDE P base nb ls k (R.drop k) e h (fun e' h' => ∃ l', EnvIs e' l' ∧ K l' h')

/-! ### States -/
variable {h0 h h' h1 : AH} {D : List Nat} {Z0 Z Z' : Zn} {Rv : Nat × Nat} {L L' : List Itm}
theorem St.reserve (hS : St h0 D Z0 Rv Z h L) (n : Nat) : St h0 D Z0 (h.next, h.next + n) Z { h with next := h.next + n } L :=
  { hS with
    zin := hS.zin
    ok := fun p hp => Itm.ok_same (hS.ok p hp) fun _ _ => rfl
    liv := fun b hb => Nat.lt_of_lt_of_le (hS.liv b hb) (Nat.le_add_right _ _)
    frm := hS.frm
    nxt := Nat.le_trans hS.nxt (Nat.le_add_right _ _)
    low := hS.low
    rsv := fun b h1 _ => by
      show h.blk b = none
      cases hb : h.blk b with
      | none => rfl
      | some B => have := hS.liv b (by rw [hb]; simp); simp only at h1; omega
    rlt := Nat.le_refl _
    rge := .inl hS.nxt }
theorem St.unres (hS : St h0 D Z0 Rv Z h L) : St h0 D Z0 (0, 0) Z h L :=
  { hS with
    rsv := fun b _ h2 => absurd h2 (Nat.not_lt_zero _)
    rlt := Nat.zero_le _
    rge := .inr rfl }
theorem St.shr (hS : St h0 D Z0 Rv Z h L) {lo : Nat} (hl : Rv.1 ≤ lo) (hz : h0.next ≤ Rv.1) : St h0 D Z0 (lo, Rv.2) Z h L :=
  { hS with
    rsv := fun b h1 h2 => hS.rsv b (Nat.le_trans hl h1) h2
    rlt := hS.rlt
    rge := .inl (Nat.le_trans hz hl) }
theorem St.lown (hS : St h0 D Z0 Rv Z h L) : St h0 D Z0 Rv Z { h with low := h.next } L :=
  { hS with
    zin := hS.zin
    ok := fun p hp => Itm.ok_same (hS.ok p hp) fun _ _ => rfl
    liv := hS.liv
    frm := hS.frm
    nxt := hS.nxt
    low := fun x h1 h2 h3 => Nat.le_trans h2 hS.nxt
    rsv := hS.rsv
    rlt := hS.rlt
    rge := hS.rge }
theorem St.relow (hS : St h0 D Z0 Rv Z h L) (hS1 : St h0 D Z0 Rv Z' h1 L') : St h0 D Z0 Rv Z' { h1 with low := if h1.low < h.low then h1.low else h.low } L' :=
  { hS1 with
    zin := hS1.zin
    ok := fun p hp => Itm.ok_same (hS1.ok p hp) fun _ _ => rfl
    liv := hS1.liv
    frm := hS1.frm
    nxt := hS1.nxt
    low := fun x q1 q2 q3 => by
      have a := hS.low x q1 q2 q3
      have b := hS1.low x q1 q2 q3
      show x ≤ if h1.low < h.low then h1.low else h.low
      split <;> omega
    rsv := hS1.rsv
    rlt := hS1.rlt
    rge := hS1.rge }
theorem St.put_at (hS : St h0 D Z0 Rv Z h L) {b : Nat} (h1 : Rv.1 ≤ b) (h2 : b < Rv.2) (cs : List Value) (z : Nat) (q : Itm) (hqi : q.ids = [b]) (hq : q.ok { h with t := h.t.set b (some ⟨cs, true, z⟩) }) :
    St h0 D Z0 (b + 1, Rv.2) Z { h with t := h.t.set b (some ⟨cs, true, z⟩) } (q :: L) := by
  have hz : h0.next ≤ Rv.1 := by rcases hS.rge with q | q <;> omega
  have hnone := hS.rsv b h1 h2
  have hS2 := hS.shr (lo := b + 1) (by omega) hz
  have hblk : ∀ c, AH.blk { h with t := h.t.set b (some ⟨cs, true, z⟩) } c = if c = b then some ⟨cs, true, z⟩ else h.blk c := fun c => Tr.get_set _ _ _ _
  refine hS2.add q (fun c hc _ => ?_) hq (fun c hc => ?_) (Nat.le_refl _) (fun c hc => ?_) (fun x hx => hx)
  · rw [hblk, if_neg (by rw [hqi, List.mem_singleton] at hc; exact hc)]
  · rw [hqi, List.mem_singleton] at hc
    subst hc
    exact ⟨hnone, by omega, .inr (Nat.lt_succ_self _)⟩
  · rw [hblk] at hc
    by_cases e : c = b
    · subst e; exact Nat.lt_of_lt_of_le h2 hS.rlt
    · rw [if_neg e] at hc; exact hS.liv c hc

/-! ### Steps -/
variable {R : List COpD} {base k : Nat} {l l' : KL} {K : KL → AH → Prop} {g : Option (Option Nat × Bool)} {d : Option Nat} {op : Op} {eo lo nb ls : Bool}
theorem W_regionD {c : Code} {N : KL → AH → Prop} {X : AEx → KL → AH → Prop} (hc : regOfD P c = some R) (hS : St h0 D Z0 Rv Z h L) (hw : ∀ base h', (∀ p ∈ L, ∀ b ∈ p.ids, b < base) ∧ (∀ b, Z b ≠ none → b < base) → St h0 D Z0 (base, base + R.length) Z h' L → wpRD P R base false true 0 l h' N) : W P c l h N X := by
  intro e he
  cases c with
  | region i ops dr =>
    cases dr with
    | false => cases hc
    | true =>
      simp only [regOfD, Option.some.injEq] at hc
      have hlen : R.length = ops.size := by rw [← hc, stripD_length]; simp
      have h1 := hw h.next _ ⟨fun p hp b hb => hS.toPre.lt hp hb, fun b hb => by
        cases hz : Z b with
        | none => exact absurd hz hb
        | some cs => obtain ⟨B, q, _⟩ := hS.zin b cs hz; exact hS.liv b (by rw [q]; simp)⟩ (hS.reserve R.length) e he
      rw [List.drop_zero, ← hc] at h1
      obtain ⟨s, h2, h3⟩ := wpDE_run (base := h.next) ops.toList 0 (looks := []) (effs := []) (by simp) ⟨Nat.le_add_right _ _, fun x hx => (by cases hx), fun _ x hx => (by cases hx), fun x hx => (by cases hx), fun x hx => (by cases hx)⟩ h1
      refine ⟨.normal, s.e, s.h, ⟨1, ?_⟩, h3⟩
      simp only [aCode, aRegionD]
      rw [hc, hlen] at h2
      rw [h2]; rfl
  | _ => cases hc
/-- What happens to the flags at an operation that makes. -/
inductive Mk (base : Nat) (eo : Bool) (h h1 : AH) : Bool → Bool → Bool → Bool → Prop where
  | still {nb ls : Bool} (hl : h.next ≤ h1.low) : Mk base eo h h1 nb ls nb ls
  | ord {ls : Bool} (he : eo = true) : Mk base eo h h1 false ls false false
  | new {nb : Bool} (hb : base ≤ h1.low) : Mk base eo h h1 nb true true true
variable {nb' ls' : Bool}
theorem d_step (ho : R[k]? = some ⟨g, d, op, .make, eo, lo⟩) (hg : gon l g) {v : Value} (h1' : OpTo P l op { h with low := h.next } v h1) (hl : Mk base eo h h1 nb ls nb' ls') (hk : wpRD P R base nb' ls' (k + 1) (updL l d v) { h1 with low := if h1.low < h.low then h1.low else h.low } K) : wpRD P R base nb ls k l h K := by
  intro e he
  rw [drop_at ho]
  simp only [wpDE]
  have hx := hk (e.put d v) (he.upd d v)
  have hy : ∃ v h1, aOp P (callI P) e.ev op { h with low := h.next } = some (v, h1) ∧
          ((h.next ≤ h1.low ∧ wpDE P base nb ls (k + 1) (R.drop (k + 1)) (e.put d v) { h1 with low := if h1.low < h.low then h1.low else h.low } (fun e' h' => ∃ l', EnvIs e' l' ∧ K l' h')) ∨
           (eo = true ∧ nb = false ∧ wpDE P base nb false (k + 1) (R.drop (k + 1)) (e.put d v) { h1 with low := if h1.low < h.low then h1.low else h.low } (fun e' h' => ∃ l', EnvIs e' l' ∧ K l' h')) ∨
           (base ≤ h1.low ∧ ls = true ∧ wpDE P base true ls (k + 1) (R.drop (k + 1)) (e.put d v) { h1 with low := if h1.low < h.low then h1.low else h.low } (fun e' h' => ∃ l', EnvIs e' l' ∧ K l' h'))) := by
    refine ⟨v, h1, h1' e he, ?_⟩
    cases hl with
    | still hl => exact .inl ⟨hl, hx⟩
    | ord heo => exact .inr (.inl ⟨heo, rfl, hx⟩)
    | new hb => exact .inr (.inr ⟨hb, rfl, hx⟩)
  match g, hg with
  | none, _ => exact hy
  | some (some t, w), hg => exact ⟨t, rfl, .inl ⟨he t _ hg, hy⟩⟩
theorem d_val (ho : R[k]? = some ⟨g, d, op, .pure, eo, lo⟩) (hg : gon l g) {v : Value} (h1' : OpTo P l op h v h) (hk : wpRD P R base nb ls (k + 1) (updL l d v) h K) : wpRD P R base nb ls k l h K := by
  intro e he
  rw [drop_at ho]
  simp only [wpDE]
  have hx := hk (e.put d v) (he.upd d v)
  match g, hg with
  | none, _ => exact ⟨v, h, h1' e he, hx⟩
  | some (some t, w), hg => exact ⟨t, rfl, .inl ⟨he t _ hg, v, h, h1' e he, hx⟩⟩
theorem look_of {ev : Operand → Value} {v : Value} {h2 : AH} (hc : cls P op = .look) (ho : aOp P (callI P) ev op h = some (v, h2)) : aLook P ev op h = some v := by
  cases op with
  | load t a =>
    simp only [aOp] at ho
    obtain ⟨u, h1, h3⟩ := Option.map_eq_some_iff.1 ho
    injection h3 with h3 h4
    subst h3
    exact h1
  | convert s t x =>
    simp only [aOp] at ho
    simp only [aLook, ho, Option.map_some]
  | call c =>
    simp only [cls] at hc
    split at hc <;> cases hc
  | _ => cases hc
theorem d_lookL (hcl : cls P op = .look) (ho : R[k]? = some ⟨g, d, op, .look, eo, lo⟩) (hg : gon l g) {v : Value} (h1' : OpTo P l op h v h) (hs : ∀ e, EnvIs e l → lo = true ∨ Stab P base h e.ev op v) (hk : wpRD P R base nb ls (k + 1) (updL l d v) h K) : wpRD P R base nb ls k l h K := by
  intro e he
  rw [drop_at ho]
  simp only [wpDE]
  have hx := hk (e.put d v) (he.upd d v)
  have hv := look_of hcl (h1' e he)
  match g, hg with
  | none, _ => exact ⟨v, hv, .inl ⟨hs e he, hx⟩⟩
  | some (some t, w), hg => exact ⟨t, rfl, .inl ⟨he t _ hg, v, hv, .inl ⟨hs e he, hx⟩⟩⟩
/-- A look that is in order to all changes, or ahead of none that is not. -/
theorem d_look (hcl : cls P op = .look) (ho : R[k]? = some ⟨g, d, op, .look, eo, lo⟩) (hg : gon l g) {v : Value} (h1' : OpTo P l op h v h) (hk : wpRD P R base false false (k + 1) (updL l d v) h K) : wpRD P R base false ls k l h K := by
  intro e he
  rw [drop_at ho]
  simp only [wpDE]
  have hx := hk (e.put d v) (he.upd d v)
  have hv := look_of hcl (h1' e he)
  match g, hg with
  | none, _ => exact ⟨v, hv, .inr ⟨trivial, hx⟩⟩
  | some (some t, w), hg => exact ⟨t, rfl, .inl ⟨he t _ hg, v, hv, .inr ⟨trivial, hx⟩⟩⟩
theorem stab_load {t : TypeId} {x : Operand} {a : Addr} {v : Value} (hx : opv l x = some (.pointer (some a))) (hb : a.block < base) (hs : sameV v v = true) (h1 : OpTo P l (.load t x) h v h) : ∀ e, EnvIs e l → lo = true ∨ Stab P base h e.ev (.load t x) v := by
  intro e he
  refine .inr ⟨hs, fun h2 hh => ?_⟩
  have hv : aLook P e.ev (.load t x) h = some v := look_of rfl (h1 e he)
  simp only [aLook, he.opv hx, aLoad, AH.cellsAt, AH.load] at hv ⊢
  rw [hh a.block hb]
  exact hv
theorem d_fresh {f : Fresh} (ho : R[k]? = some ⟨g, d, op, .fresh, eo, lo⟩) (hg : gon l g) (hf : FrTo P l op f) (hk : wpRD P R base nb ls (k + 1) (updL l d (f.1 (base + k))) { h with t := h.t.set (base + k) (some ⟨f.2.1, true, f.2.2⟩) } K) : wpRD P R base nb ls k l h K := by
  intro e he
  rw [drop_at ho]
  simp only [wpDE]
  have hx := hk (e.put d _) (he.upd d _)
  have hv := hf.2 e he
  match g, hg with
  | none, _ => exact ⟨f, hv, hx⟩
  | some (some t, w), hg => exact ⟨t, rfl, .inl ⟨he t _ hg, f, hv, hx⟩⟩
theorem d_blk {lw hi : Nat} {cs : List Value} {z : Nat} (ho : R[k]? = some ⟨g, d, op, .fresh, eo, lo⟩) (hg : gon l g) (hf : FrTo P l op (fun id => .pointer (some ⟨id, 0, none⟩), cs, z)) (hS : St h0 D Z0 (lw, hi) Z h L) (h1 : lw ≤ base + k) (h2 : base + k < hi)
    (hk : ∀ b h', b = base + k → St h0 D Z0 (b + 1, hi) Z h' (.blk b cs :: L) → wpRD P R base nb ls (k + 1) (updL l d (.pointer (some ⟨b, 0, none⟩))) h' K) : wpRD P R base nb ls k l h K :=
  d_fresh ho hg hf (hk (base + k) _ rfl (hS.put_at h1 h2 cs z _ rfl ⟨z, by
    show AH.blk { h with t := h.t.set (base + k) (some ⟨cs, true, z⟩) } (base + k) = _
    exact (Tr.get_set _ _ _ _).trans (if_pos rfl)⟩))
theorem d_row {lw hi : Nat} {cells : List Value} {n s : Nat} (ho : R[k]? = some ⟨g, d, op, .fresh, eo, lo⟩) (hg : gon l g) (hf : FrTo P l op (fun id => .slice (some ⟨id, 0, none⟩) n n, cells, s)) (hn : n * s = cells.length) (hS : St h0 D Z0 (lw, hi) Z h L) (h1 : lw ≤ base + k) (h2 : base + k < hi)
    (hk : ∀ v h' b, b = base + k → St h0 D Z0 (b + 1, hi) Z h' (.gs v cells s :: L) → wpRD P R base nb ls (k + 1) (updL l d v) h' K) : wpRD P R base nb ls k l h K :=
  d_fresh ho hg hf (hk _ _ (base + k) rfl (hS.put_at h1 h2 cells s _ rfl (.inr ⟨base + k, n, n, rfl, hn, .inl rfl, (Tr.get_set _ _ _ _).trans (if_pos rfl)⟩)))
theorem d_skip {t : Nat} {w : Bool} {b : Value} {cl : Cls} (ho : R[k]? = some ⟨some (some t, w), d, op, cl, eo, lo⟩) (hl : lk l t = some b) (hb : b ≠ .bool w) (hk : wpRD P R base nb ls (k + 1) (updL l d undef) h K) : wpRD P R base nb ls k l h K := by
  intro e he
  rw [drop_at ho]
  simp only [wpDE]
  exact ⟨t, rfl, .inr ⟨by rw [he t _ hl]; exact hb, hk _ (he.upd d undef)⟩⟩
theorem d_end (ho : R.length = k) (hk : K l h) : wpRD P R base nb ls k l h K := by
  intro e he
  rw [List.drop_eq_nil_of_le (by omega)]
  exact ⟨l, he, hk⟩
theorem d_setb {t : Nat} {b w : Bool} (hl : lk l t = some (.bool b)) (hb : b = w) (hk : wpRD P R base nb ls k ((t, .bool w) :: l) h K) : wpRD P R base nb ls k l h K := by
  intro e he
  subst hb
  refine hk e fun u v hu => ?_
  simp only [lk] at hu
  cases hx : Nat.beq t u with
  | true =>
    rw [hx] at hu
    have := Nat.eq_of_beq_eq_true hx
    subst this
    simp only [Option.some.injEq] at hu
    subst hu
    exact he t _ hl
  | false => rw [hx] at hu; exact he u v hu
theorem d_forget (ts : List Nat) (hp : Sy.pick l ts = l') (hk : wpRD P R base nb ls k l' h K) : wpRD P R base nb ls k l h K := by
  subst hp
  exact fun e he => hk e (he.pick ts)
/-- Several operations without memory. -/
def runD (P : Program) : List COpD → Nat → KL → Option KL
  | _, 0, l => some l
  | [], _ + 1, _ => none
  | o :: os, m + 1, l =>
    match o.g with
    | none => (match o.cl, pureV P l o.op with | .pure, some v => runD P os m (updL l o.d v) | _, _ => none)
    | some (some t, w) => (match lk l t with
      | some b => (match isB w b with
        | true => (match o.cl, pureV P l o.op with | .pure, some v => runD P os m (updL l o.d v) | _, _ => none)
        | false => runD P os m (updL l o.d undef))
      | none => none)
    | some (none, _) => none
theorem pureD_step {cl : Cls} {os : List COpD} {m i : Nat} {l l' : KL} {h : AH} {K : Env → AH → Prop} {e : Env} (he : EnvIs e l) (hr : (match cl, pureV P l op with | .pure, some v => runD P os m (updL l d v) | _, _ => none) = some l')
    (hih : ∀ v, runD P os m (updL l d v) = some l' → EnvIs (e.put d v) (updL l d v) → wpDE P base nb ls (i + 1) os (e.put d v) h K) : cl = .pure ∧ ∃ v, aOp P (callI P) e.ev op h = some (v, h) ∧ wpDE P base nb ls (i + 1) os (e.put d v) h K := by
  cases hv : pureV P l op with
  | none => rw [hv] at hr; cases cl <;> cases hr
  | some v =>
    rw [hv] at hr
    cases cl with
    | pure => exact ⟨rfl, v, pureV_ok he hv, hih v hr (he.upd _ _)⟩
    | _ => cases hr
theorem runD_ok : ∀ (m : Nat) {R : List COpD} {i : Nat} {l l' : KL} {h : AH} {K : Env → AH → Prop} {e : Env}, runD P R m l = some l' → EnvIs e l → (∀ e', EnvIs e' l' → wpDE P base nb ls (i + m) (R.drop m) e' h K) → wpDE P base nb ls i R e h K := by
  intro m
  induction m with
  | zero =>
    intro R i l l' h K e hr he hk
    simp only [runD, Option.some.injEq] at hr
    subst hr
    exact hk e he
  | succ m ih =>
    intro R i l l' h K e hr he hk
    cases R with
    | nil => cases hr
    | cons o os =>
      obtain ⟨g, d, op, cl, eo, lo⟩ := o
      have hk' : ∀ e', EnvIs e' l' → wpDE P base nb ls (i + 1 + m) (os.drop m) e' h K := fun e' he' => by
        have := hk e' he'
        rw [show i + (m + 1) = i + 1 + m by omega] at this
        exact this
      match g with
      | none =>
        simp only [runD] at hr
        obtain ⟨rfl, v, h1, h2⟩ := pureD_step (base := base) (i := i) (h := h) (K := K) he hr (fun v q1 q2 => ih q1 q2 hk')
        simp only [wpDE]
        exact ⟨v, h, h1, h2⟩
      | some (some t, w) =>
        simp only [runD] at hr
        cases hl : lk l t with
        | none => rw [hl] at hr; cases hr
        | some b =>
          rw [hl] at hr
          simp only at hr
          cases hb : isB w b with
          | true =>
            rw [hb] at hr
            obtain ⟨rfl, v, h1, h2⟩ := pureD_step (base := base) (i := i) (h := h) (K := K) he hr (fun v q1 q2 => ih q1 q2 hk')
            simp only [wpDE]
            refine ⟨t, rfl, .inl ⟨?_, v, h, h1, h2⟩⟩
            rw [he t _ hl]
            exact isB_iff.1 hb
          | false =>
            rw [hb] at hr
            simp only [wpDE]
            refine ⟨t, rfl, .inr ⟨fun q => ?_, ih hr (he.upd _ _) hk'⟩⟩
            rw [he t _ hl] at q
            rw [isB_iff.2 q] at hb
            cases hb
      | some (none, _) => cases hr
theorem d_run (m : Nat) (hr : runD P (R.drop k) m l = some l') (hk : wpRD P R base nb ls (k + m) l' h K) : wpRD P R base nb ls k l h K := by
  intro e he
  refine runD_ok m hr he fun e' he' => ?_
  have := hk e' he'
  rw [List.drop_drop]
  exact this
/-- Operations that change what was there. -/
theorem d_make {Z1 : Zn} (ho : R[k]? = some ⟨g, d, op, .make, eo, lo⟩) (hg : gon l g) (hS : St h0 D Z0 Rv Z h L) {v : Value} (h1' : OpTo P l op { h with low := h.next } v h1) (hS1 : St h0 D Z0 Rv Z1 h1 L') (hl : Mk base eo h h1 nb ls nb' ls')
    (hk : ∀ h', St h0 D Z0 Rv Z1 h' L' → wpRD P R base nb' ls' (k + 1) (updL l d v) h' K) : wpRD P R base nb ls k l h K :=
  d_step ho hg h1' hl (hk _ (hS.relow hS1))
theorem d_ex1 {v : Value} (ho : R[k]? = some ⟨g, d, op, .make, eo, lo⟩) (hg : gon l g) (hS : St h0 D Z0 Rv Z h L) (hx : ∃ h1, OpTo P l op { h with low := h.next } v h1 ∧ St h0 D Z0 Rv Z h1 L') (he : eo = true)
    (hk : ∀ h', St h0 D Z0 Rv Z h' L' → wpRD P R base false false (k + 1) (updL l d v) h' K) : wpRD P R base false ls k l h K := by
  obtain ⟨h1, q1, q2⟩ := hx
  exact d_make ho hg hS q1 q2 (.ord he) hk
theorem d_ex1n {v : Value} (ho : R[k]? = some ⟨g, d, op, .make, eo, lo⟩) (hg : gon l g) (hS : St h0 D Z0 Rv Z h L) (hx : ∃ h1, OpTo P l op { h with low := h.next } v h1 ∧ St h0 D Z0 Rv Z h1 L' ∧ base ≤ h1.low)
    (hk : ∀ h', St h0 D Z0 Rv Z h' L' → wpRD P R base true true (k + 1) (updL l d v) h' K) : wpRD P R base nb true k l h K := by
  obtain ⟨h1, q1, q2, q3⟩ := hx
  exact d_make ho hg hS q1 q2 (.new q3) hk
theorem d_ex2 {v : Value} {T : List Value → Prop} {F : List Value → List Itm} (ho : R[k]? = some ⟨g, d, op, .make, eo, lo⟩) (hg : gon l g) (hS : St h0 D Z0 Rv Z h L) (hx : ∃ h1 c, OpTo P l op { h with low := h.next } v h1 ∧ T c ∧ St h0 D Z0 Rv Z h1 (F c)) (he : eo = true)
    (hk : ∀ h' c, T c ∧ St h0 D Z0 Rv Z h' (F c) → wpRD P R base false false (k + 1) (updL l d v) h' K) : wpRD P R base false ls k l h K := by
  obtain ⟨h1, c, q1, q2, q3⟩ := hx
  exact d_make ho hg hS q1 q3 (.ord he) fun h' q => hk h' c ⟨q2, q⟩
theorem d_ex3 {T : List Value → Prop} {F : Value → List Value → List Itm} (ho : R[k]? = some ⟨g, d, op, .make, eo, lo⟩) (hg : gon l g) (hS : St h0 D Z0 Rv Z h L) (hx : ∃ v c h1, OpTo P l op { h with low := h.next } v h1 ∧ T c ∧ St h0 D Z0 Rv Z h1 (F v c)) (he : eo = true)
    (hk : ∀ v c h', T c ∧ St h0 D Z0 Rv Z h' (F v c) → wpRD P R base false false (k + 1) (updL l d v) h' K) : wpRD P R base false ls k l h K := by
  obtain ⟨v, c, h1, q1, q2, q3⟩ := hx
  exact d_make ho hg hS q1 q3 (.ord he) fun h' q => hk v c h' ⟨q2, q⟩
theorem d_ex3c {T : List Value → Prop} {F : Value → List Value → List Itm} (ho : R[k]? = some ⟨g, d, op, .make, eo, lo⟩) (hg : gon l g) (hS : St h0 D Z0 Rv Z h L) (hx : ∃ v c h1, OpTo P l op { h with low := h.next } v h1 ∧ T c ∧ St h0 D Z0 Rv Z h1 (F v c) ∧ h1.low = AH.low { h with low := h.next })
    (hk : ∀ v c h', T c ∧ St h0 D Z0 Rv Z h' (F v c) → wpRD P R base nb ls (k + 1) (updL l d v) h' K) : wpRD P R base nb ls k l h K := by
  obtain ⟨v, c, h1, q1, q2, q3, q4⟩ := hx
  exact d_make ho hg hS q1 q3 (.still (by rw [q4]; exact Nat.le_refl _)) fun h' q => hk v c h' ⟨q2, q⟩
theorem d_exv {Q : Value → Prop} (ho : R[k]? = some ⟨g, d, op, .pure, eo, lo⟩) (hg : gon l g) (hx : ∃ v, OpTo P l op h v h ∧ Q v) (hk : ∀ v, Q v → wpRD P R base nb ls (k + 1) (updL l d v) h K) : wpRD P R base nb ls k l h K := by
  obtain ⟨v, h1, h2⟩ := hx
  exact d_val ho hg h1 (hk v h2)
theorem St.lowk {A : List Itm} (hc : St { h with low := h.next } [] Z (0, 0) Z' h1 A) : h.next ≤ h1.low := hc.low h.next (Nat.le_refl _) (Nat.le_refl _) (fun d hd => by cases hd)
/-! ### Looks at elder blocks -/
def Sim1 : Value → Prop
  | .bool _ | .int .. | .string _ | .pointer _ | .slice .. => True
  | _ => False
theorem same1 {v : Value} (h : Sim1 v) : sameV v v = true := by
  cases v <;> simp_all [sameV, Sim1]
inductive SimL : List Value → Prop where
  | nil : SimL []
  | cons {v : Value} {vs : List Value} (h : Sim1 v) (k : SimL vs) : SimL (v :: vs)
theorem same_agg {cs : List Value} (h : SimL cs) : sameV (.agg cs.toArray) (.agg cs.toArray) = true := by
  simp only [sameV, decide_true, Bool.true_and]
  induction h with
  | nil => rfl
  | cons h k ih =>
    rename_i v vs
    simp only [List.zip_cons_cons, List.all_cons, Bool.and_eq_true]
    refine ⟨?_, ih⟩
    cases v <;> simp_all [Sim1]
theorem RS.sim1 {α : Type} [Cell α] {v : Value} {xs : List α} (hR : RS Z v xs) : Sim1 v := by obtain ⟨a, c, rfl, _⟩ := hR; trivial
theorem St.gsim1 {v : Value} {cells : List Value} {s i : Nat} (hS : St h0 D Z0 Rv Z h L) (hi : L[i]? = some (.gs v cells s)) : Sim1 v := by
  rcases hS.ok _ (List.mem_of_getElem? hi) with ⟨rfl, _⟩ | ⟨b, n, c, rfl, _⟩ <;> trivial
theorem d_lookS {t : TypeId} {x : Operand} {a : Addr} {v : Value} (ho : R[k]? = some ⟨g, d, .load t x, .look, eo, lo⟩) (hg : gon l g) (hx : opv l x = some (.pointer (some a))) (hb : a.block < base) (hs : sameV v v = true) (h1' : OpTo P l (.load t x) h v h)
    (hk : wpRD P R base nb ls (k + 1) (updL l d v) h K) : wpRD P R base nb ls k l h K :=
  d_lookL rfl ho hg h1' (stab_load hx hb hs h1') hk
theorem row_ltI {α : Type} [Cell α] {v : Value} {xs : List α} (hz : ∀ b, Z b ≠ none → b < base) (hR : RS Z v xs) (hn : 0 < xs.length) : (baseOf v).block < base := by
  obtain ⟨a, c, rfl, h2, h3⟩ := hR
  cases a with
  | none => subst h3; simp at hn
  | some a => obtain ⟨_, all, h5, _⟩ := h3; exact hz _ (by show Z a.block ≠ none; rw [h5]; simp)
theorem row_ltM {v : Value} {c : List Value} {s n : Nat} (hz : ∀ b ∈ (Itm.gs v c s).ids, b < base) (hB : Based v n) : (baseOf v).block < base := by
  obtain ⟨a, c, rfl, _⟩ := hB
  exact hz a.block (by simp [Itm.ids])
theorem o_stbn {t : TypeId} {x y : Operand} {i b off : Nat} {cells vs cells' : List Value} {v : Value} (hbb : base ≤ b) (hS : St h0 D Z0 Rv Z { h with low := h.next } L) (hi : L[i]? = some (.blk b cells))
    (hx : opv l x = some (.pointer (some ⟨b, off, none⟩))) (hy : opv l y = some v) (hvs : stV v = vs) (ht : tsize P t = some vs.length) (hone : vs.all Value.oneCell' = true) (hl : Nat.ble (off + vs.length) cells.length = true)
    (hc : cells.take off ++ vs ++ cells.drop (off + vs.length) = cells') (hL : L.set i (.blk b cells') = L') :
    ∃ h', OpTo P l (.store t x y) { h with low := h.next } undef h' ∧ St h0 D Z0 Rv Z h' L' ∧ base ≤ h'.low := by
  obtain ⟨h', h1, h2⟩ := o_stb hS hi hx hy hvs ht hone hl hc hL
  refine ⟨h', h1, h2, ?_⟩
  obtain ⟨z, hz⟩ := hS.ok _ (List.mem_of_getElem? hi)
  have hbn : b < h.next := hS.liv b (by rw [hz]; simp)
  obtain ⟨e, he⟩ : ∃ e, EnvIs e l := EnvIs.exists l
  have hop := h1 e he
  simp only [aOp, aStore, he.opv hx] at hop
  cases hts : tsize P t with
  | none => rw [hts] at ht; cases ht
  | some m =>
    rw [hts] at hop
    simp only [Option.bind_some] at hop
    split at hop
    · obtain ⟨h3, h4, h5⟩ := Option.map_eq_some_iff.1 hop
      injection h5 with _ h5
      subst h5
      simp only [AH.store, hz, Option.bind_some] at h4
      split at h4
      · simp only [Option.some.injEq] at h4
        rw [← h4, AH.low_put]
        show base ≤ if b < h.next then b else h.next
        split <;> omega
      · cases h4
    · simp at hop
end
end Go.Proofs.Ytdajldmgdpggkaa.Sy
