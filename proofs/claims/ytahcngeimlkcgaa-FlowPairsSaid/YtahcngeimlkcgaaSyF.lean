/- States in regions that draw: numbers that are kept free. -/
import Derived.Test.YtahcngeimlkcgaaSyE
namespace Go.Proofs.Ytahcngeimlkcgaa.Sy
open Go Am
open Cell (rc)
set_option linter.unusedVariables false
set_option linter.unusedSectionVars false
set_option linter.unusedSimpArgs false
section
variable {P : Program}
theorem ordered_comm (ps : List Nat) (i j : Nat) : ordered ps i j = ordered ps j i := by unfold ordered; rw [Bool.or_comm]
theorem callI_stay : StayCall (callI P) := by
 intro f a h v h' hh
 obtain ⟨k, hk⟩ := of_callI hh
 exact aCall_stay (P := P) (fun f a h v h' hh => by cases hh) k f a h v h' hk
variable {h0 h h' h1 : AH} {D : List Nat} {Z0 Z Z' : Zn} {Rv : Nat × Nat} {L L' : List Itm}
theorem St.reserve (hS : St h0 D Z0 Rv Z h L) (n : Nat) : St h0 D Z0 (h.next, h.next + n) Z { h with next := h.next + n } L :=
 { hS with
  zin := hS.zin
  ok := fun p hp => Itm.ok_same (hS.ok p hp) fun _ _ => rfl
  liv := fun b hb => Nat.lt_of_lt_of_le (hS.liv b hb) (Nat.le_add_right _ _)
  frm := hS.frm
  nxt := Nat.le_trans hS.nxt (Nat.le_add_right _ _)
  low := hS.low
  rsv := fun b h1 _ => by
   show h.blk b = none
   cases hb : h.blk b with
   | none => rfl
   | some B => have := hS.liv b (by rw [hb]; simp); simp only at h1; omega
  rlt := Nat.le_refl _
  rge := .inl hS.nxt }
theorem St.unres (hS : St h0 D Z0 Rv Z h L) : St h0 D Z0 (0, 0) Z h L :=
 { hS with
  rsv := fun b _ h2 => absurd h2 (Nat.not_lt_zero _)
  rlt := Nat.zero_le _
  rge := .inr rfl }
theorem St.shr (hS : St h0 D Z0 Rv Z h L) {lo : Nat} (hl : Rv.1 ≤ lo) (hz : h0.next ≤ Rv.1) : St h0 D Z0 (lo, Rv.2) Z h L :=
 { hS with
  rsv := fun b h1 h2 => hS.rsv b (Nat.le_trans hl h1) h2
  rlt := hS.rlt
  rge := .inl (Nat.le_trans hz hl) }
theorem St.lown (hS : St h0 D Z0 Rv Z h L) : St h0 D Z0 Rv Z { h with low := h.next } L :=
 { hS with
  zin := hS.zin
  ok := fun p hp => Itm.ok_same (hS.ok p hp) fun _ _ => rfl
  liv := hS.liv
  frm := hS.frm
  nxt := hS.nxt
  low := fun x h1 h2 h3 => Nat.le_trans h2 hS.nxt
  rsv := hS.rsv
  rlt := hS.rlt
  rge := hS.rge }
theorem St.relow (hS : St h0 D Z0 Rv Z h L) (hS1 : St h0 D Z0 Rv Z' h1 L') : St h0 D Z0 Rv Z' { h1 with low := if h1.low < h.low then h1.low else h.low } L' :=
 { hS1 with
  zin := hS1.zin
  ok := fun p hp => Itm.ok_same (hS1.ok p hp) fun _ _ => rfl
  liv := hS1.liv
  frm := hS1.frm
  nxt := hS1.nxt
  low := fun x q1 q2 q3 => by
   have a := hS.low x q1 q2 q3
   have b := hS1.low x q1 q2 q3
   show x ≤ if h1.low < h.low then h1.low else h.low
   split <;> omega
  rsv := hS1.rsv
  rlt := hS1.rlt
  rge := hS1.rge }
theorem St.put_at (hS : St h0 D Z0 Rv Z h L) {b : Nat} (h1 : Rv.1 ≤ b) (h2 : b < Rv.2) (cs : List Value) (z : Nat) (q : Itm) (hqi : q.ids = [b]) (hq : q.ok { h with t := h.t.set b (some ⟨cs, true, z⟩) }) :
  St h0 D Z0 (b + 1, Rv.2) Z { h with t := h.t.set b (some ⟨cs, true, z⟩) } (q :: L) := by
 have hz : h0.next ≤ Rv.1 := by rcases hS.rge with q | q <;> omega
 have hnone := hS.rsv b h1 h2
 have hS2 := hS.shr (lo := b + 1) (by omega) hz
 have hblk : ∀ c, AH.blk { h with t := h.t.set b (some ⟨cs, true, z⟩) } c = if c = b then some ⟨cs, true, z⟩ else h.blk c := fun c => Tr.get_set _ _ _ _
 refine hS2.add q (fun c hc _ => ?_) hq (fun c hc => ?_) (Nat.le_refl _) (fun c hc => ?_) (fun x hx => hx)
 ·rw [hblk, if_neg (by rw [hqi, List.mem_singleton] at hc; exact hc)]
 ·rw [hqi, List.mem_singleton] at hc
  subst hc
  exact ⟨hnone, by omega, .inr (Nat.lt_succ_self _)⟩
 ·rw [hblk] at hc
  by_cases e : c = b
  ·subst e; exact Nat.lt_of_lt_of_le h2 hS.rlt
  ·rw [if_neg e] at hc; exact hS.liv c hc
variable {l : KL} {op : Op} {base : Nat}
theorem look_of {ev : Operand → Value} {v : Value} {h2 : AH} (hc : cls P op = .look) (ho : aOp P (callI P) ev op h = some (v, h2)) : aLook P ev op h = some v := by
 cases op with
 | load t a =>
  simp only [aOp] at ho
  obtain ⟨u, h1, h3⟩ := Option.map_eq_some_iff.1 ho
  injection h3 with h3 h4
  subst h3
  exact h1
 | convert s t x =>
  simp only [aOp] at ho
  simp only [aLook, ho, Option.map_some]
 | call c =>
  simp only [cls] at hc
  split at hc <;> cases hc
 | _ => cases hc
theorem St.lowk {A : List Itm} (hc : St { h with low := h.next } [] Z (0, 0) Z' h1 A) : h.next ≤ h1.low := hc.low h.next (Nat.le_refl _) (Nat.le_refl _) (fun d hd => by cases hd)
def Sim1 : Value → Prop
 | .bool _ | .int .. | .string _ | .pointer _ | .slice .. => True
 | _ => False
theorem same1 {v : Value} (h : Sim1 v) : sameV v v = true := by
 cases v <;> simp_all [sameV, Sim1]
inductive SimL : List Value → Prop where
 | nil : SimL []
 | cons {v : Value} {vs : List Value} (h : Sim1 v) (k : SimL vs) : SimL (v :: vs)
theorem same_agg {cs : List Value} (h : SimL cs) : sameV (.agg cs.toArray) (.agg cs.toArray) = true := by
 simp only [sameV, decide_true, Bool.true_and]
 induction h with
 | nil => rfl
 | cons h k ih =>
  rename_i v vs
  simp only [List.zip_cons_cons, List.all_cons, Bool.and_eq_true]
  refine ⟨?_, ih⟩
  cases v <;> simp_all [Sim1]
theorem RS.sim1 {α : Type} [Cell α] {v : Value} {xs : List α} (hR : RS Z v xs) : Sim1 v := by obtain ⟨a, c, rfl, _⟩ := hR; trivial
theorem St.gsim1 {v : Value} {cells : List Value} {s i : Nat} (hS : St h0 D Z0 Rv Z h L) (hi : L[i]? = some (.gs v cells s)) : Sim1 v := by
 rcases hS.ok _ (List.mem_of_getElem? hi) with ⟨rfl, _⟩ | ⟨b, n, c, rfl, _⟩ <;> trivial
theorem row_ltI {α : Type} [Cell α] {v : Value} {xs : List α} (hz : ∀ b, Z b ≠ none → b < base) (hR : RS Z v xs) (hn : 0 < xs.length) : (baseOf v).block < base := by
 obtain ⟨a, c, rfl, h2, h3⟩ := hR
 cases a with
 | none => subst h3; simp at hn
 | some a => obtain ⟨_, all, h5, _⟩ := h3; exact hz _ (by show Z a.block ≠ none; rw [h5]; simp)
theorem row_ltM {v : Value} {c : List Value} {s n : Nat} (hz : ∀ b ∈ (Itm.gs v c s).ids, b < base) (hB : Based v n) : (baseOf v).block < base := by
 obtain ⟨a, c, rfl, _⟩ := hB
 exact hz a.block (by simp [Itm.ids])
end
end Go.Proofs.Ytahcngeimlkcgaa.Sy
