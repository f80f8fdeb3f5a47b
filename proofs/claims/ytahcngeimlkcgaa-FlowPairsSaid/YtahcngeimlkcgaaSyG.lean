/- What a law is handed: its arguments in the world, as rows of the abstract machine's heap that are not its own. -/
import Derived.Test.YtahcngeimlkcgaaSyF
import Derived.Test.YtahcngeimlkcgaaAmU
import Derived.Deep.Slices
import Derived.ReadAgain
import Derived.ChangeStays
namespace Go.Proofs.Ytahcngeimlkcgaa.Sy
open Go Am Go.Deep
open Cell (rc)
set_option linter.unusedVariables false
set_option linter.unusedSectionVars false
set_option linter.unusedSimpArgs false
variable [Marks]
def handB (h : AH) (cs : List Value) : AH := ⟨h.t.set h.next (some ⟨cs, false, 1⟩), h.next + 1, h.low⟩
omit [Marks] in
theorem blk_handB (h : AH) (cs : List Value) (b : Nat) : (handB h cs).blk b = if b = h.next then some ⟨cs, false, 1⟩ else h.blk b := Tr.get_set _ _ _ _
structure Hand (w : World) (ρ : Rho) (Z : Zn) (h : AH) : Prop where
 sim : Sim ρ w h.blk h.next
 inv : Inv Z h
 no : ∀ b B, h.blk b = some B → B.own = false
theorem hand_none (w : World) : Hand w ρ0 (fun _ => none) AH.none :=
 ⟨sim_none w, ⟨fun b cs h => (by cases h), fun b h => absurd (AH.none_blk b) h⟩, fun b B h => by rw [AH.none_blk] at h; cases h⟩
section
variable {w : World} {ρ : Rho} {Z : Zn} {h : AH}
theorem Hand.zn (H : Hand w ρ Z h) : Z h.next = none := by
 cases hz : Z h.next with
 | none => rfl
 | some cs =>
  obtain ⟨B, h1, h2⟩ := H.inv.zin _ _ hz
  have := H.inv.liv h.next (by rw [h1]; simp)
  omega
theorem Hand.zle (H : Hand w ρ Z h) (cs : List Value) : Zle Z (Z.ins h.next cs) := fun b c hb => by
 rw [Zn.ins_ne Z cs (fun e => by rw [e, H.zn] at hb; cases hb)]; exact hb
theorem Hand.inv' (H : Hand w ρ Z h) (cs : List Value) : Inv (Z.ins h.next cs) (handB h cs) := by
 refine ⟨fun b c hb => ?_, fun b hb => ?_⟩
 ·rw [blk_handB]
  by_cases e : b = h.next
  ·subst e
   rw [Zn.ins_self] at hb
   cases hb
   exact ⟨_, by rw [if_pos rfl], rfl⟩
  ·rw [Zn.ins_ne Z cs e] at hb
   rw [if_neg e]
   exact H.inv.zin b c hb
 ·show b < h.next + 1
  rw [blk_handB] at hb
  by_cases e : b = h.next
  ·omega
  ·rw [if_neg e] at hb
   have := H.inv.liv b hb
   omega
theorem Hand.no' (H : Hand w ρ Z h) (cs : List Value) : ∀ b B, (handB h cs).blk b = some B → B.own = false := fun b B hb => by
 rw [blk_handB] at hb
 split at hb
 ·cases hb; rfl
 ·exact H.no b B hb
theorem Hand.row (H : Hand w ρ Z h) {cs cs' : List Value} {a b0 : Nat} (hl : LR ρ cs cs') (hc : ∀ i v', cs'[i]? = some v' → w.cell? ⟨b0, a + i, none⟩ = some v') (hb : b0 < w.heap.size) :
  ∃ ρ', Hand w ρ' (Z.ins h.next cs) (handB h cs) ∧ Rle ρ ρ' ∧ ρ' h.next = some ⟨b0, a, 0, 0⟩ := by
 refine ⟨fun b => if b = h.next then some ⟨b0, a, 0, 0⟩ else ρ b, ⟨⟨?_, ?_, ?_, ?_, ?_, ?_⟩, H.inv' cs, H.no' cs⟩, ?_, by simp⟩
 ·intro b p hp
  show b < h.next + 1
  by_cases e : b = h.next
  ·omega
  ·simp only [if_neg e] at hp
   have := H.sim.dom b p hp
   omega
 ·intro b p hp
  by_cases e : b = h.next
  ·simp only [if_pos e] at hp
   cases hp; exact hb
  ·simp only [if_neg e] at hp
   exact H.sim.lt b p hp
 ·intro b B p hB hp i v hv
  have hr : Rle ρ (fun b => if b = h.next then some ⟨b0, a, 0, 0⟩ else ρ b) := fun x q hq => by
   have := H.sim.dom x q hq
   simp only []
   rw [if_neg (by omega)]; exact hq
  rw [blk_handB] at hB
  by_cases e : b = h.next
  ·simp only [if_pos e] at hp hB
   cases hp; cases hB
   obtain ⟨v', h1, h2⟩ := hl.get hv
   exact ⟨v', hc i v' h1, h2.mono hr⟩
  ·simp only [if_neg e] at hp hB
   obtain ⟨v', h1, h2⟩ := H.sim.cell b B p hB hp i v hv
   exact ⟨v', h1, h2.mono hr⟩
 ·intro b B p hB hp ho
  rw [H.no' cs b B hB] at ho; cases ho
 ·intro b c B C p q hbc hB hC hp hq ho
  rw [H.no' cs b B hB] at ho; cases ho
 ·intro b hb'
  show b < h.next + 1
  rw [blk_handB] at hb'
  by_cases e : b = h.next
  ·omega
  ·rw [if_neg e] at hb'
   have := H.sim.live b hb'
   omega
 ·intro x q hq
  have := H.sim.dom x q hq
  simp only []
  rw [if_neg (by omega)]; exact hq
theorem Hand.row0 (H : Hand w ρ Z h) : Hand w ρ (Z.ins h.next []) (handB h []) := by
 refine ⟨⟨?_, H.sim.lt, ?_, ?_, ?_, ?_⟩, H.inv' [], H.no' []⟩
 ·intro b p hp
  show b < h.next + 1
  have := H.sim.dom b p hp
  omega
 ·intro b B p hB hp i v hv
  rw [blk_handB] at hB
  have := H.sim.dom b p hp
  rw [if_neg (by omega)] at hB
  exact H.sim.cell b B p hB hp i v hv
 ·intro b B p hB hp ho
  rw [H.no' [] b B hB] at ho; cases ho
 ·intro b c B C p q hbc hB hC hp hq ho
  rw [H.no' [] b B hB] at ho; cases ho
 ·intro b hb'
  show b < h.next + 1
  rw [blk_handB] at hb'
  by_cases e : b = h.next
  ·omega
  ·rw [if_neg e] at hb'
   have := H.sim.live b hb'
   omega
end
def Reads (P : Program) (t : TypeId) (α : Type) [Cell α] (good : α → Prop) : Prop :=
 ∀ (Hd : Type) (enc : TypeId × Value → Hd) (w : World) (n : Nat) (cs : List Value) (x : DataW Hd × List MemPlace), DataW.trod enc P w 0 (fun _ => true) true n t cs = some x →
 ∀ (ρ : Rho) (Z : Zn) (h : AH), Hand w ρ Z h → ∃ ρ' Z' h' ccs y, Hand w ρ' Z' h' ∧ Rle ρ ρ' ∧ Zle Z Z' ∧ LR ρ' ccs cs ∧ rc (α := α) Z' ccs y ∧ good y
section
variable {P : Program} {t : TypeId}
theorem reads_int (ht : P.underlying t = some (.int .i64)) : Reads P t Int (fun n => (Lit.int .i64 n).wf = true) := by
 intro Hd enc w n cs x hx ρ Z h H
 obtain ⟨m, rfl, rfl, hw⟩ := DataW.trod_int ht hx
 exact ⟨ρ, Z, h, _, m, H, Rle.refl _, Zle.refl _, LR.cons (.int _ _) (LR.nil _), rfl, hw⟩
theorem reads_bool (ht : P.underlying t = some .bool) : Reads P t Bool (fun _ => True) := by
 intro Hd enc w n cs x hx ρ Z h H
 obtain ⟨m, rfl, rfl⟩ := DataW.trod_bool ht hx
 exact ⟨ρ, Z, h, _, m, H, Rle.refl _, Zle.refl _, LR.cons (.bool _) (LR.nil _), rfl, trivial⟩
theorem reads_string (ht : P.underlying t = some .string) : Reads P t Str (fun s => s.b.length ≤ maxLen) := by
 intro Hd enc w n cs x hx ρ Z h H
 obtain ⟨s, rfl, rfl, hs⟩ := DataW.trod_string ht hx
 exact ⟨ρ, Z, h, [.string s], ⟨s.data.toList⟩, H, Rle.refl _, Zle.refl _, LR.cons (.string _) (LR.nil _), rfl, by simpa using hs⟩
theorem reads_byte (ht : P.underlying t = some (.int .u8)) : Reads P t UInt8 (fun _ => True) := by
 intro Hd enc w n cs x hx ρ Z h H
 obtain ⟨m, rfl, rfl, hw⟩ := DataW.trod_int ht hx
 have hm : 0 ≤ m ∧ m < 256 := by
  simp [Lit.wf, IntKind.min, IntKind.max, IntKind.signed, IntKind.bits] at hw
  omega
 refine ⟨ρ, Z, h, [.int .u8 m], UInt8.ofNat m.toNat, H, Rle.refl _, Zle.refl _, LR.cons (.int _ _) (LR.nil _), ?_, trivial⟩
 show [Value.int .u8 m] = [Value.int .u8 _]
 have : ((UInt8.ofNat m.toNat).toNat : Int) = m := by
  rw [UInt8.toNat_ofNat']
  omega
 rw [this]
theorem reads_elems {e : TypeId} {α : Type} [Cell α] {good : α → Prop} (hr : Reads P e α good) {Hd : Type} {enc : TypeId × Value → Hd} {w : World} {n : Nat} {D : Nat → DataW Hd} {Pl : Nat → List MemPlace} {css : Nat → List Value} :
  ∀ (m : Nat), (∀ i, i < m → DataW.trod enc P w 0 (fun _ => true) true n e (css i) = some (D i, Pl i)) → ∀ (ρ : Rho) (Z : Zn) (h : AH), Hand w ρ Z h →
  ∃ ρ' Z' h' ccs ys, Hand w ρ' Z' h' ∧ Rle ρ ρ' ∧ Zle Z Z' ∧ LR ρ' ccs ((List.range m).flatMap css) ∧ RCs (α := α) Z' ccs ys ∧ ys.length = m ∧ ∀ y ∈ ys, good y := by
 intro m
 induction m with
 | zero => exact fun _ ρ Z h H => ⟨ρ, Z, h, [], [], H, Rle.refl _, Zle.refl _, LR.nil _, rfl, rfl, fun y hy => by cases hy⟩
 | succ m ih =>
  intro hx ρ Z h H
  obtain ⟨ρ1, Z1, h1, c1, y1, H1, r1, z1, l1, q1, n1, g1⟩ := ih (fun i hi => hx i (by omega)) ρ Z h H
  obtain ⟨ρ2, Z2, h2, c2, y2, H2, r2, z2, l2, q2, g2⟩ := hr Hd enc w n _ _ (hx m (by omega)) ρ1 Z1 h1 H1
  refine ⟨ρ2, Z2, h2, c1 ++ c2, y1 ++ [y2], H2, r1.trans r2, z1.trans z2, ?_, (q1.mono z2).append (RCs.single q2), by simp [n1], ?_⟩
  ·rw [List.range_succ, List.flatMap_append]
   refine (l1.mono r2).append ?_
   simpa using l2
  ·intro y hy
   rcases List.mem_append.1 hy with hy | hy
   ·exact g1 y hy
   ·rw [List.mem_singleton.1 hy]; exact g2
omit [Marks] in
theorem flat_at {css : Nat → List Value} {k m : Nat} (hl : ∀ i, i < m → (css i).length = k) : ((List.range m).flatMap css).length = m * k ∧ ∀ (j : Nat) v, ((List.range m).flatMap css)[j]? = some v → ∃ i r, i < m ∧ r < k ∧ j = i * k + r ∧ (css i)[r]? = some v := by
 induction m with
 | zero => exact ⟨by simp, fun j v h => by simp at h⟩
 | succ m ih =>
  obtain ⟨h1, h2⟩ := ih fun i hi => hl i (by omega)
  rw [List.range_succ, List.flatMap_append]
  refine ⟨by simp only [List.length_append, h1]; simp [hl m (by omega), Nat.add_mul], fun j v h => ?_⟩
  by_cases hj : j < m * k
  ·rw [List.getElem?_append_left (by omega)] at h
   obtain ⟨i, r, q1, q2, q3, q4⟩ := h2 j v h
   exact ⟨i, r, by omega, q2, q3, q4⟩
  ·rw [List.getElem?_append_right (by omega), h1] at h
   have h' : (css m)[j - m * k]? = some v := by simpa using h
   have := (List.getElem?_eq_some_iff.1 h').1
   rw [hl m (by omega)] at this
   exact ⟨m, j - m * k, by omega, this, by omega, h'⟩
theorem reads_slice {e : TypeId} {α : Type} [Cell α] {good : α → Prop} (ht : P.underlying t = some (.slice e)) (hc : P.cellsOf e = csz α) (hr : Reads P e α good) : Reads P t (List α) (fun xs => (∀ y ∈ xs, good y) ∧ xs.length ≤ maxLen) := by
 intro Hd enc w n cs x hx ρ Z h H
 rcases open_slice ht hx with ⟨rfl, rfl⟩ | ⟨a, len, cap, m, n, D, Pl, rfl, hb, hl, hm, hmm, rfl, hel⟩
 ·exact ⟨ρ, Z, h, [.slice none 0 0], [], H, Rle.refl _, Zle.refl _, LR.cons (.sl0 (fun e => e) (Nat.le_refl _)) (LR.nil _), ⟨_, ⟨none, 0, rfl, Nat.le_refl _, rfl⟩, rfl⟩, ⟨fun y hy => (by cases hy), by simp⟩⟩
 ·simp only [if_true] at hmm
  subst hmm
  obtain ⟨css, hcs⟩ := choose_lt (α := List Value) (n := len) (p := fun i c => w.cells? 0 (a.add (i * P.cellsOf e)) (P.cellsOf e) = some c ∧ DataW.trod enc P w 0 (fun _ => true) true n e c = some (D i, Pl i)) (fun i hi => hel i (by omega))
  obtain ⟨ρ1, Z1, h1, ccs, ys, H1, r1, z1, l1, q1, n1, g1⟩ := reads_elems hr len (fun i hi => (hcs i hi).2) ρ Z h H
  have hp := Cell.pos (α := α)
  rcases Nat.eq_zero_or_pos len with h0 | h0
  ·subst h0
   have hy : ys = [] := List.eq_nil_of_length_eq_zero n1
   subst hy
   refine ⟨ρ1, _, _, [.slice (some ⟨h1.next, 0, none⟩) 0 2], [], H1.row0, r1, z1.trans (H1.zle []), LR.cons (.sl (fun e => by omega) (by omega) (fun q => by omega) (fun q => by omega)) (LR.nil _), ?_, ⟨fun y hy => (by cases hy), by simp⟩⟩
   exact ⟨_, ⟨some ⟨h1.next, 0, none⟩, 2, rfl, by simp, rfl, [], Zn.ins_self _ _ _, by simp, by simp [RCs]⟩, rfl⟩
  ·have hlen : ∀ i, i < len → (css i).length = csz α := fun i hi => by
    have := (World.cells?_some (hcs i hi).1).2.1
    rw [← hc]; exact this
   have hat : ∀ i, i < len → ∀ (r : Nat) v, (css i)[r]? = some v → w.cell? (a.add (i * csz α + r)) = some v := fun i hi r v hv => by
    have h3 := (World.cells?_some (hcs i hi).1).2.2
    have hlt := (List.getElem?_eq_some_iff.1 hv).1
    rw [hlen i hi] at hlt
    rw [← add_add, ← hc, ← hv]
    exact h3 r (by rw [hc]; exact hlt)
   obtain ⟨fl, fa⟩ := flat_at (m := len) hlen
   have hc0 : w.cell? (a.add 0) = some ((css 0)[0]'(by rw [hlen 0 h0]; exact hp)) := by
    have := hat 0 h0 0 _ (List.getElem?_eq_getElem (by rw [hlen 0 h0]; exact hp))
    simpa using this
   obtain ⟨ab, ao, asp⟩ := a
   have hs : asp = none := by simpa [Addr.add] using World.cell?_spot hc0
   subst hs
   have hbl : ab < w.heap.size := by
    rcases Nat.lt_or_ge ab w.heap.size with q | q
    ·exact q
    ·unfold World.cell? at hc0
     simp [Addr.add, Array.getElem?_eq_none q] at hc0
   obtain ⟨ρ2, H2, r2, e2⟩ := H1.row (a := ao) (b0 := ab) l1 (fun j v hv => by
    obtain ⟨i, r, i1, i2, rfl, i4⟩ := fa j v hv
    have := hat i i1 r v i4
    rwa [Go.WideShapes.add_plain] at this) hbl
   have hcl : ccs.length = len * csz α := by rw [l1.1, fl]
   refine ⟨ρ2, _, _, [.slice (some ⟨h1.next, 0, none⟩) len (len + 2)], ys, H2, r1.trans r2, z1.trans (H1.zle ccs), LR.cons (.sl (fun e => by omega) hl (fun _ => ⟨rfl, _, e2, by simp⟩) (fun q => by omega)) (LR.nil _), ?_, ⟨g1, by omega⟩⟩
   refine ⟨_, ⟨some ⟨h1.next, 0, none⟩, len + 2, by rw [n1], by omega, rfl, ccs, Zn.ins_self _ _ _, by rw [n1, hcl]; simp, ?_⟩, rfl⟩
   have : (ccs.drop 0).take (ys.length * csz α) = ccs := by rw [n1, List.drop_zero, List.take_of_length_le (by omega)]
   rw [this]
   exact q1.mono (H1.zle ccs)
end
end Go.Proofs.Ytahcngeimlkcgaa.Sy
