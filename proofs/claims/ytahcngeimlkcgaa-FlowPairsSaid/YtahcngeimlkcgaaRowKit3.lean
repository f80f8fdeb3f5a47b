/- A law's call with rows handed to it; its arguments read the same after. -/
import Derived.Test.YtahcngeimlkcgaaSyG
import Derived.Test.YtahcngeimlkcgaaRowKit
import Derived.ChangeReads
import Derived.ChangeStays
namespace Go.Proofs.Ytahcngeimlkcgaa.M
open Go Am Sy Go.ChangeShapes Go.WideShapes
open Sy.Cell (rc)
set_option linter.unusedVariables false
set_option linter.unusedSectionVars false
variable [Marks]
section
variable {P : Program} {t : TypeId} {Hd : Type} {enc : TypeId × Value → Hd} {w : World} {ρ : Rho} {Z : Zn} {h : AH}
theorem arg_slice {e : TypeId} {α : Type} [Cell α] {good : List α → Prop} (hr : Reads P t (List α) good) (ht : P.underlying t = some (.slice e)) {r : Reach} {b : Nat} {v : Value} {d : DataW Hd} {ps : List MemPlace}
  (hv : Value.okWide P w r b t v) (hd : DataW.Trod enc P w 0 (fun _ => true) true t v d ps) (H : Hand w ρ Z h) :
  ∃ ρ' Z' h' u xs, Hand w ρ' Z' h' ∧ Rle ρ ρ' ∧ Zle Z Z' ∧ VR ρ' u v ∧ RS (α := α) Z' u xs ∧ good xs := by
 obtain ⟨a, len, cap, rfl⟩ := okWide_slice ht hv
 obtain ⟨n, hn⟩ := hd
 obtain ⟨ρ', Z', h', ccs, xs, H', r1, z1, l1, ⟨u, q1, rfl⟩, g1⟩ := hr _ _ _ _ _ _ hn ρ Z h H
 exact ⟨ρ', Z', h', u, xs, H', r1, z1, LR.head (by simpa [Value.cells] using l1), q1, g1⟩
theorem calls_hand {f : FuncId} {args args' : List Value} {h' : AH} (hP : ProgOk P) (H : Hand w ρ Z h) (hc : callI P f args h = some (.bool true, h')) (hl : LR ρ args args') :
  Calls P f args'.toArray w fun e w' => e = .returned (.bool true) ∧ Grew w w' := by
 obtain ⟨k, hk⟩ := of_callI hc
 refine ((aCall_good hP noOv_good.1 (noOv_good (P := P)).2 k f args h _ h' hk).2 ρ w args' hl H.sim).mono fun e w' hq => ?_
 obtain ⟨ρ', v', q1, q2, q3, q4⟩ := hq
 cases q2
 exact ⟨q1, q4.grew H.no⟩
omit [Marks] in
theorem Grew.sameAt {W W' : World} (hg : Grew W W') {p : MemPlace} (hp : p.block < W.heap.size) : W.sameAt W' p := by
 have h3 := hg.1.2.2 p.block hp
 cases p with
 | cell b off =>
  simp only [MemPlace.block] at h3 hp
  simp only [World.sameAt, World.cell?]
  split at h3
  ·rename_i e1 e2
   rw [e1, e2]
   simp [h3.2.2.2 off (by simp)]
  ·rename_i e1 e2
   rcases h3 with q | ⟨rfl, rfl⟩
   ·exact q.elim
   ·rw [e1, e2]
  ·rw [h3]
 | map b =>
  simp only [MemPlace.block] at h3 hp
  simp only [World.sameAt]
  split at h3
  ·rename_i e1 e2
   obtain ⟨rfl, rfl, h4, h5⟩ := h3
   rw [e1, e2]
   have : ∀ (x y : Array Value), y.size = x.size → (∀ j : Nat, y[j]? = x[j]?) → y = x := fun x y _ q => Array.ext_getElem? q
   rw [this _ _ h4 fun j => h5 j (by simp)]
  ·rename_i e1 e2
   rcases h3 with q | ⟨rfl, rfl⟩
   ·exact q.elim
   ·rw [e1, e2]
  ·exact h3
theorem args_same {T : TypeId → Prop} (K : Kids P T) (hz : ∀ t e, T t → P.underlying t = some (.slice e) → 0 < P.cellsOf e) {W W' : World} (hg : Grew W W') {sp : Nat → Bool} :
  ∀ {ts : List TypeId} {vs : List Value} {ds : List (DataW Hd)} {ps : List MemPlace}, (∀ t ∈ ts, T t) → DataW.TrodAll enc P W 0 (fun _ => true) true ts vs ds ps → (∀ p ∈ ps, p.block < W.heap.size) → (∀ p ∈ ps, sp p.block = true) → DataW.TrodAll enc P W' 0 sp true ts vs ds ps
 | [], [], [], _, _, h, _, _ => h
 | _ :: _, _ :: _, _ :: _, _, hT, ⟨p, q, ⟨n, h1⟩, h2, e⟩, hb, hs =>
  ⟨p, q, ⟨n, DataW.trod_stays K (fun {_ _} a b => hz _ _ a b) (fun a => by cases a) (hT _ List.mem_cons_self) h1 (fun x hx => Grew.sameAt hg (hb x (by rw [e]; exact List.mem_append_left _ hx))) (fun x hx => hs x (by rw [e]; exact List.mem_append_left _ hx))⟩,
   args_same K hz hg (fun t ht => hT t (List.mem_cons.2 (Or.inr ht))) h2 (fun x hx => hb x (by rw [e]; exact List.mem_append_right _ hx)) (fun x hx => hs x (by rw [e]; exact List.mem_append_right _ hx)), e⟩
end
end Go.Proofs.Ytahcngeimlkcgaa.M
