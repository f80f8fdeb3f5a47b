/- The abstract machine: calls that are known beforehand; worlds that only grew; the row's last step. -/
import Derived.Test.YtahcngeimlkcgaaAmT
import Derived.ChangeSame
import Derived.RowKit3
namespace Go.Proofs.Ytahcngeimlkcgaa.Am
open Go
variable [Marks]
set_option linter.unusedVariables false
set_option linter.unusedSectionVars false
set_option linter.unusedSimpArgs false
def Grew (W w' : World) : Prop := W.keptBut w' (fun _ => False) ∧ (∀ a : Addr, a.block < W.heap.size → w'.frozen? a = W.frozen? a) ∧ W.heap.size ≤ w'.heap.size
omit [Marks] in
theorem Grew.frame {W w' : World} (h : Grew W w') (may : MemPlace → Prop) : W.keptBut w' may := World.keptBut_mono (fun _ f => f.elim) h.1
omit [Marks] in
theorem grew_of_same {W w' : World} (ho : w'.os = W.os) (hu : w'.output = W.output) (hs : W.heap.size ≤ w'.heap.size) (hk : ∀ k, k < W.heap.size → w'.heap[k]? = W.heap[k]?) : Grew W w' := by
 refine ⟨⟨ho, hu, fun i hi => ?_⟩, fun a ha => ?_, hs⟩
 ·have h1 := (World.keptBut_refl W (fun _ => False)).2.2 i hi
  rw [hk i hi]
  exact h1
 ·unfold World.frozen?
  rw [hk _ ha]
theorem Ext.grew {ρ ρ' : Rho} {blk blk' : Blks} {n n' : Nat} {W w' : World} (h : Ext ρ blk n W ρ' blk' n' w') (hno : ∀ b B, blk b = some B → B.own = false) : Grew W w' :=
 grew_of_same h.os h.output h.size fun k hk => h.keep k hk fun ⟨b, B, p, q1, q2, q3, q4⟩ => by rw [hno b B q1] at q2; cases q2
section
open Go.ChangeShapes Go.WideShapes
variable {H : Type} {enc : TypeId × Value → H} {P : Program}
omit [Marks] in
theorem post_grew {f : Func} {s : ChangeSpec} {apart fresh handsOn again : Bool} {W W' : World} {args : Array Value} {v : Value} {ds gs : List (DataW H)} {before pa pv : List MemPlace}
  (hW : DataW.Whole enc P f.params.toList s.vars apart W args.toList ds gs before)
  (hres : ∀ (b : Nat) (sp : Nat → Bool) (hd : Bool), DataW.TrodAll enc P W' b sp hd f.resultTypes.toList (v.resultList f.resultTypes.size) (s.fn H (ds ++ gs)).results [])
  (hargs : ∀ sp : Nat → Bool, (∀ p ∈ before, sp p.block = true) → DataW.TrodAll enc P W' 0 sp true f.params.toList args.toList (s.fn H (ds ++ gs)).args pa)
  (hvars : ∀ sp : Nat → Bool, (∀ p ∈ before, sp p.block = true) → DataW.TrodVars enc P W' sp s.vars (s.fn H (ds ++ gs)).vars pv)
  (hps : before = pa ++ pv) (hg : Grew W W')
  (hok : ∀ (j : Nat) (t : TypeId) (r : Value), f.resultTypes[j]? = some t → (v.resultList f.resultTypes.size)[j]? = some r → Value.okWide P W' .any 0 t r) :
  s.post enc P f apart fresh handsOn again W args v W' := by
 have hlt := fun p hp => hW.lt p hp
 have hold : ∀ p ∈ before, (fun b => decide (b < W.heap.size)) p.block = true := fun p hp => by simpa using hW.lt p hp
 refine ⟨ds, gs, before, [], pa, pv, hW, hres _ _ _, hargs _ hold, hvars _ hold, World.keptBut_mono (fun p hp => ⟨hp, ?_⟩) (hg.frame (· ∈ before)), fun _ => ?_⟩
 ·rw [hps, List.mem_append] at hp
  exact Or.inr hp
 ·obtain ⟨_, _, _, _, _, hz, hn⟩ := hW
  refine ⟨hok, _, _, ([] ++ pa) ++ pv, ⟨[] ++ pa, pv, trodAll_append (hargs _ (fun _ _ => rfl)) (hres _ _ _), hvars _ (fun _ _ => rfl), rfl, ?_, ?_⟩, ?_⟩
  ·intro b off hp
   have hp' : MemPlace.cell b off ∈ before := by rw [hps]; simpa using hp
   rw [hg.2.1 _ (hlt _ hp')]
   exact hz b off hp'
  ·intro ha
   have := hn ha
   rw [hps] at this
   simpa using this
  ·intro p hp _
   rw [hps]
   simpa using hp
end
section
variable {P : Program}
theorem Sim.grow {ρ : Rho} {w w' : World} {blk : Blks} {next : Nat} (h : Sim ρ w blk next) (hs : w.heap.size ≤ w'.heap.size) (hk : ∀ k, k < w.heap.size → w'.heap[k]? = w.heap[k]?) : Sim ρ w' blk next :=
 ⟨h.dom, fun b p q => Nat.lt_of_lt_of_le (h.lt b p q) hs, fun b B p q r i v hv => by
  obtain ⟨v', h1, h2⟩ := h.cell b B p q r i v hv
  exact ⟨v', by rw [← h1]; exact World.cell?_of_block (hk _ (h.lt b p r)), h2⟩,
  fun b B p q r s => by rw [hk _ (h.lt b p r)]; exact h.own b B p q r s, h.apart, h.live⟩
def Known (P : Program) (f : FuncId) (args : List Value) (v : Value) : Prop :=
 (∃ fn c, P.funcs[f]? = some fn ∧ fn.body = some c ∧ (fn.name == "runtime.NumGoroutine") = false) ∧
 ∀ (ρ : Rho) (w : World) (args' : List Value) (blk : Blks) (next : Nat), LR ρ args args' → Sim ρ w blk next →
  Calls P f args'.toArray w fun e w' => ∃ v', e = .returned v' ∧ VR ρ v v' ∧ Sim ρ w' blk next ∧ Ext ρ blk next w ρ blk next w'
theorem known_good {ov : ACallee} (h : ∀ f args h v h', ov f args h = some (v, h') → h' = h ∧ Known P f args v) : Good P ov ∧ StayCall ov := by
 refine ⟨fun f args h0 v h' hh => ?_, fun f args h0 v h' hh => ?_⟩
 ·obtain ⟨rfl, h1, h2⟩ := h f args h0 v h' hh
  refine ⟨h1, fun ρ w args' hl hs => ?_⟩
  refine (h2 ρ w args' _ _ hl hs).mono fun e w' hq => ?_
  obtain ⟨v', q1, q2, q3, q4⟩ := hq
  exact ⟨ρ, v', q1, q2, q3, q4⟩
 ·obtain ⟨rfl, _⟩ := h f args h0 v h' hh
  exact Stay.refl _
def noOv : ACallee := fun _ _ _ => none
theorem noOv_good : Good P noOv ∧ StayCall noOv := known_good fun f args h v h' hh => by cases hh
def AH.none : AH := ⟨.nil, 0, 0⟩
theorem AH.none_blk (b : Nat) : AH.none.blk b = Option.none := by simp [AH.none, AH.blk, Tr.get]
def ρ0 : Rho := fun _ => Option.none
theorem sim_none (w : World) : Sim ρ0 w AH.none.blk AH.none.next where
 dom b p q := by cases q
 lt b p q := by cases q
 cell b B p q := by rw [AH.none_blk] at q; cases q
 own b B p q := by rw [AH.none_blk] at q; cases q
 apart b c B C p q h q1 := by rw [AH.none_blk] at q1; cases q1
 live b q := absurd (AH.none_blk b) q
theorem rle0 (ρ : Rho) : Rle ρ0 ρ := fun b p (q : ρ0 b = some p) => by cases q
theorem known_of_run (hP : ProgOk P) {ov : ACallee} (hov : Good P ov) (hso : StayCall ov) {k : Nat} {f : FuncId} {args : List Value} {v : Value} {h' : AH} (hr : aCall P ov k f args .none = some (v, h')) (ha : args.all clean = true) (hv : clean v = true) : Known P f args v := by
 obtain ⟨g1, g2⟩ := aCall_good hP hov hso k f args .none v h' hr
 refine ⟨g1, fun ρ w args' blk next hl hs => ?_⟩
 have hl0 : LR ρ0 args args' := ⟨hl.1, fun i u u' a b => VR.narrow (rle0 ρ) (clean_VR ρ0 (List.all_eq_true.1 ha u (List.mem_of_getElem? a))) u' (hl.2 i u u' a b)⟩
 refine (g2 ρ0 w args' hl0 (sim_none w)).mono fun e w' hq => ?_
 obtain ⟨ρ', v', q1, q2, q3, q4⟩ := hq
 have hk : ∀ k, k < w.heap.size → w'.heap[k]? = w.heap[k]? := fun k hk => q4.keep k hk fun ⟨b, B, p, m1, _⟩ => by rw [AH.none_blk] at m1; cases m1
 exact ⟨v', q1, (VR.narrow q4.le (clean_VR ρ0 hv) v' q2).mono (rle0 ρ), hs.grow q4.size hk, ⟨Rle.refl _, q4.os, q4.tape, q4.output, q4.size, Nat.le_refl _, fun k h1 _ => hk k h1, fun _ _ q => q, fun _ _ q => .inl q, fun _ _ _ => rfl⟩⟩
theorem calls_of_run (hP : ProgOk P) {ov : ACallee} (hov : Good P ov) (hso : StayCall ov) {k : Nat} {f : FuncId} {args args' : List Value} {v : Value} {h' : AH} (hr : aCall P ov k f args .none = some (v, h')) (hl : LR ρ0 args args') (hv : clean v = true) (w : World) :
  Calls P f args'.toArray w fun e w' => ∃ v', e = .returned v' ∧ VR ρ0 v v' ∧ Grew w w' := by
 refine ((aCall_good hP hov hso k f args .none v h' hr).2 ρ0 w args' hl (sim_none w)).mono fun e w' hq => ?_
 obtain ⟨ρ', v', q1, q2, q3, q4⟩ := hq
 exact ⟨v', q1, VR.narrow q4.le (clean_VR ρ0 hv) v' q2, q4.grew fun b B h => by rw [AH.none_blk] at h; cases h⟩
end
end Go.Proofs.Ytahcngeimlkcgaa.Am
