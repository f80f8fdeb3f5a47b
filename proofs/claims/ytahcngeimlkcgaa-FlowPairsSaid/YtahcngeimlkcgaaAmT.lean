/- The abstract machine: what a call of it answers, the model's call answers. -/
import Derived.Test.YtahcngeimlkcgaaAmS
namespace Go.Proofs.Ytahcngeimlkcgaa.Am
open Go
variable [Marks]
set_option linter.unusedVariables false
set_option linter.unusedSectionVars false
set_option linter.unusedSimpArgs false
theorem AR.narrow {ρ ρ' : Rho} (hr : Rle ρ ρ') {a a0 a' : Addr} (h : AR ρ a a0) (h' : AR ρ' a a') : AR ρ a a' := by
 obtain ⟨h1, p, h2, h3⟩ := h
 obtain ⟨_, p', q2, q3⟩ := h'
 have := hr _ _ h2
 rw [q2] at this
 have := Option.some.inj this
 subst this
 exact ⟨h1, p', h2, q3⟩
theorem VR.narrow {ρ ρ' : Rho} (hr : Rle ρ ρ') {v v0 : Value} (h : VR ρ v v0) : ∀ v', VR ρ' v v' → VR ρ v v' := by
 induction h with
 | bool b => intro v' h'; cases h'; exact .bool b
 | int k n => intro v' h'; cases h'; exact .int k n
 | float k n => intro v' h'; cases h'; exact .float k n
 | string s => intro v' h'; cases h'; exact .string s
 | nilFunc => intro v' h'; cases h'; exact .nilFunc
 | nilIface => intro v' h'; cases h'; exact .nilIface
 | ptr0 => intro v' h'; cases h'; exact .ptr0
 | ptr h => intro v' h'; cases h' with | ptr h' => exact .ptr (h.narrow hr h')
 | sl0 h1 h2 => intro v' h'; cases h' with | sl0 k1 k2 => exact .sl0 k1 k2
 | sl h1 h2 h3 h4 =>
  intro v' h'
  cases h' with
  | sl k1 k2 k3 k4 =>
   refine .sl k1 k2 (fun q => (h3 q).narrow hr (k3 q)) fun q => ?_
   obtain ⟨g1, p, g2, g3⟩ := h4 q
   obtain ⟨m1, p', m2, m3⟩ := k4 q
   have := hr _ _ g2
   rw [m2] at this
   have := Option.some.inj this
   subst this
   exact ⟨g1.narrow hr m1, p', g2, m3⟩
 | func f h1 _ h3 _ ih1 ih2 =>
  intro v' h'
  cases h' with
  | func _ k1 k2 k3 k4 =>
   refine .func f k1 (fun i v u a b => ?_) k3 fun i v u a b => ?_
   ·have hi : i < _ := (Array.getElem?_eq_some_iff.1 a).1
    exact ih1 i v _ a (Array.getElem?_eq_getElem (by omega)) u (k2 i v u a b)
   ·have hi : i < _ := (Array.getElem?_eq_some_iff.1 a).1
    exact ih2 i v _ a (Array.getElem?_eq_getElem (by omega)) u (k4 i v u a b)
 | iface t _ ih => intro v' h'; cases h' with | iface _ h' => exact .iface t (ih _ h')
 | agg h1 _ ih =>
  intro v' h'
  cases h' with
  | agg k1 k2 =>
   refine .agg k1 fun i v u a b => ?_
   have hi : i < _ := (Array.getElem?_eq_some_iff.1 a).1
   exact ih i v _ a (Array.getElem?_eq_getElem (by omega)) u (k2 i v u a b)
 | tuple h1 _ ih =>
  intro v' h'
  cases h' with
  | tuple k1 k2 =>
   refine .tuple k1 fun i v u a b => ?_
   have hi : i < _ := (Array.getElem?_eq_some_iff.1 a).1
   exact ih i v _ a (Array.getElem?_eq_getElem (by omega)) u (k2 i v u a b)
section
variable {P : Program}
theorem mapM_LR {α : Type} {ρ : Rho} {f : α → Option Value} {g : α → Sem Value} {w : World} (hfg : ∀ a b, f a = some b → ∃ b', VR ρ b b' ∧ (g a).run P w = .ok b' w) : ∀ (l : List α) (r : List Value), l.mapM f = some r → ∃ r', LR ρ r r' ∧ (l.mapM g).run P w = .ok r' w := by
 intro l
 induction l with
 | nil => intro r h; simp at h; subst h; exact ⟨[], LR.nil ρ, by simp⟩
 | cons a l ih =>
  intro r h
  simp only [List.mapM_cons] at h
  cases ha : f a with
  | none => rw [ha] at h; simp at h
  | some b =>
   rw [ha] at h
   cases hl : l.mapM f with
   | none => rw [hl] at h; simp at h
   | some bs =>
    rw [hl] at h
    simp at h
    subst h
    obtain ⟨b', q1, q2⟩ := hfg a b ha
    obtain ⟨bs', q3, q4⟩ := ih bs hl
    exact ⟨b' :: bs', LR.cons q1 q3, by simp [List.mapM_cons, q2, q4]⟩
theorem results_run {ρ : Rho} {n : Nat} {fn : Func} {e : Env} {h : AH} {a : Act} {w : World} {v : Value} (hv : aResults P fn.results.toList e h = some v) (he : EnvR ρ e n a) (hs : Sim ρ w h.blk h.next) :
  ∃ v', VR ρ v v' ∧ (results fn a.tmps).run P w = .ok v' w := by
 unfold aResults at hv
 cases hm : fn.results.toList.mapM (aResult P e h) with
 | none => rw [hm] at hv; cases hv
 | some vs =>
  rw [hm] at hv
  have hgetD : ∀ t, a.tmps.getD t undef = (a.tmps[t]?).getD undef := fun t => by rw [Array.getD_eq_getD_getElem?]
  obtain ⟨vs', q1, q2⟩ := mapM_LR (P := P) (ρ := ρ) (w := w) (f := aResult P e h) (g := fun r => match r with
   | .tmp t => pure (a.tmps.getD t undef)
   | .cell x t => do loadVar t (← asAddr (a.tmps.getD x undef))) (fun r b hb => by
    cases r with
    | tmp t => simp only [aResult, Option.some.injEq] at hb; subst hb; exact ⟨_, he.get t, by simp [hgetD]⟩
    | cell x t =>
     simp only [aResult] at hb
     obtain ⟨b', h1, h2⟩ := aLoad_run (P := P) hs hb (he.get x)
     refine ⟨b', h1, ?_⟩
     have hx := he.get x
     unfold aLoad at hb
     split at hb
     ·rename_i ad hq
      rw [hq] at hx
      show Sem.run P (asAddr (a.tmps.getD x undef) >>= fun q => loadVar t q) w = _
      rw [hgetD]
      generalize (a.tmps[x]?).getD undef = y at hx h2
      cases hx with
      | ptr hh => simpa [Instr.loadAt, Instr.sureAddr, asAddr] using h2
     ·cases hb) _ _ hm
  have hrun : ∀ (k : Array Value → Sem Value), ((fn.results.mapM fun
    | .tmp t => pure (a.tmps.getD t undef)
    | .cell x t => do loadVar t (← asAddr (a.tmps.getD x undef))) >>= k).run P w = (k vs'.toArray).run P w := by
   intro k
   rw [Array.mapM_eq_mapM_toList]
   simp only [Sem.run_bind, Sem.run_map]
   rw [q2]
   simp [Result.andThen]
  have hr : (results fn a.tmps).run P w = .ok (if h : vs'.toArray.size = 1 then vs'.toArray[0] else .tuple vs'.toArray) w := by
   have := hrun fun vs => pure (if h : vs.size = 1 then vs[0] else .tuple vs)
   exact this
  refine ⟨_, ?_, hr⟩
  simp only [Option.map_some, Option.some.injEq] at hv
  subst hv
  match vs, vs', q1 with
  | [], [], q => exact .tuple rfl fun i v v' a => by simp at a
  | [x], [x'], q => simpa using q.head
  | x :: y :: l, x' :: y' :: l', q =>
   have : ¬ (x' :: y' :: l').toArray.size = 1 := by simp
   rw [dif_neg this]
   exact .tuple (by simpa using q.1) fun i v v' a b => q.2 i v v' (by simpa using a) (by simpa using b)
  | [], _ :: _, q => exact absurd q.1 (by simp)
  | [_], [], q => exact absurd q.1 (by simp)
  | [_], _ :: _ :: _, q => exact absurd q.1 (by simp)
  | _ :: _ :: _, [], q => exact absurd q.1 (by simp)
  | _ :: _ :: _, [_], q => exact absurd q.1 (by simp)
theorem aCall_good (hP : ProgOk P) {ov : ACallee} (hov : Good P ov) (hso : StayCall ov) : ∀ (k : Nat), Good P (aCall P ov k) := by
 intro k
 induction k with
 | zero => intro f args h v h' hh; exact hov f args h v h' hh
 | succ k ih =>
  intro f args h v h' hh
  simp only [aCall] at hh
  cases ho : ov f args h with
  | some r => rw [ho] at hh; simp at hh; subst hh; exact hov f args h v h' ho
  | none =>
  rw [ho] at hh
  simp only at hh
  cases hf : P.funcs[f]? with
  | none => rw [hf] at hh; cases hh
  | some fn =>
   rw [hf] at hh
   simp only [Option.bind_some] at hh
   cases hb : fn.body with
   | none => rw [hb] at hh; cases hh
   | some c =>
    rw [hb] at hh
    simp only [Option.bind_some] at hh
    have hfok := hP.func hf
    simp only [funcOk, hb, Bool.and_eq_true, Bool.not_eq_true'] at hfok
    refine ⟨⟨fn, c, rfl, hb, hfok.1⟩, fun ρ w args' hargs hs => ?_⟩
    split at hh
    ·rename_i hlen
     -- the frame
     have he : EnvR ρ (Env.ofArgs 0 args .nil) fn.ntmps { tmps := args'.toArray ++ Array.replicate (fn.ntmps - args'.toArray.size) undef, defers := [] } := by
      have hl := hargs.1
      refine ⟨by simp; omega, fun t => ?_⟩
      rw [Env.get_ofArgs, Env.get_nil]
      by_cases ht : t < args.length
      ·rw [if_pos ⟨Nat.zero_le _, by omega⟩, Nat.sub_zero]
       obtain ⟨u, hu⟩ : ∃ u, args[t]? = some u := ⟨_, List.getElem?_eq_getElem ht⟩
       obtain ⟨u', q1, q2⟩ := hargs.get hu
       rw [List.getD_eq_getElem?_getD, hu]
       have hlt : t < args'.toArray.size := by simpa [← hl] using ht
       rw [Array.getElem?_append_left hlt]
       simp only [List.getElem?_toArray, q1, Option.getD_some]
       exact q2
      ·rw [if_neg (by omega)]
       rw [Array.getElem?_append_right (by simp; omega)]
       simp only [Array.getElem?_replicate]
       split <;> exact VR.undef ρ
     have hst := aCall_stay (P := P) hso k
     have main : ∀ x e1 h1, aCode P (aCall P ov k) k c (Env.ofArgs 0 args .nil) { h with low := h.next } = some (x, e1, h1) → (x = .normal ∨ x = .ret) → aResults P fn.results.toList e1 h1 = some v → aLeave (scalarFn P fn) h v h1 = (v, h') →
       Calls P f args'.toArray w fun e w' => ∃ ρ' v', e = .returned v' ∧ VR ρ' v v' ∧ Sim ρ' w' h'.blk h'.next ∧ Ext ρ h.blk h.next w ρ' h'.blk h'.next w' := by
      intro x e1 h1 hc hx hv hlv
      refine calls_of_wp hf hb (wp_mono (aCode_wp ih hst (draw_ok hP.1 ih hst) k c _ _ x e1 h1 hc hfok.2 ρ _ w he (show Sim ρ w h.blk h.next from hs) hs.live) ?_)
      rintro ex a' w' ⟨rfl, ρ1, g1, g2, g3, g4⟩
      obtain ⟨v', q1, q2⟩ := results_run (P := P) hv g1 g3
      have g4 : Ext ρ h.blk h.next w ρ1 h1.blk h1.next w' := g4
      have hS := aCode_stay hst _ _ _ _ _ _ _ hc
      have fin : ∃ ρ' v'', Ending.returned v' = .returned v'' ∧ VR ρ' v v'' ∧ Sim ρ' w' h'.blk h'.next ∧ Ext ρ h.blk h.next w ρ' h'.blk h'.next w' := by
       unfold aLeave at hlv
       split at hlv
       ·rename_i hcond
        obtain ⟨_, hlow, hcl⟩ := hcond
        simp at hlv
        subst hlv
        have hblk : ∀ b B, h.blk b = some B → h1.blk b = some B := fun b B hB => by
         have hbl : b < h.next := hs.live b (by rw [hB]; exact fun q => by cases q)
         rw [hS.blk b hbl (Nat.lt_of_lt_of_le hbl hlow)]; exact hB
        refine ⟨ρ, v', rfl, VR.narrow g4.le (clean_VR ρ hcl) v' q1, ⟨hs.dom, fun b p q => Nat.lt_of_lt_of_le (hs.lt b p q) g4.size, fun b B p hB hp i u hu => ?_, fun b B p hB hp ho => g3.own b B p (hblk b B hB) (g4.le b p hp) ho, hs.apart, hs.live⟩,
         ⟨Rle.refl _, g4.os, g4.tape, g4.output, g4.size, Nat.le_refl _, g4.keep, fun _ _ q => q, fun _ _ q => .inl q, fun _ _ _ => rfl⟩⟩
        obtain ⟨u', k1, k2⟩ := g3.cell b B p (hblk b B hB) (g4.le b p hp) i u hu
        obtain ⟨u0, _, k4⟩ := hs.cell b B p hB hp i u hu
        exact ⟨u', k1, VR.narrow g4.le k4 u' k2⟩
       ·simp at hlv
        subst hlv
        exact ⟨ρ1, v', rfl, q1, g3, g4⟩
      rcases hx with rfl | rfl
      ·exact ⟨g2, v', q2, fin⟩
      ·exact ⟨g2, v', q2, fin⟩
     have leave : ∀ h1 v1, aLeave (scalarFn P fn) h v1 h1 = (v, h') → v1 = v := by
      intro h1 v1 hq
      unfold aLeave at hq
      split at hq <;> simp at hq <;> exact hq.1
     split at hh
     ·rename_i e1 h1 hc
      cases hv : aResults P fn.results.toList e1 h1 with
      | none => rw [hv] at hh; cases hh
      | some v1 =>
       rw [hv] at hh
       simp only [Option.map_some, Option.some.injEq] at hh
       obtain rfl := leave h1 v1 hh
       exact main _ e1 h1 hc (.inl rfl) hv hh
     ·rename_i e1 h1 hc
      cases hv : aResults P fn.results.toList e1 h1 with
      | none => rw [hv] at hh; cases hh
      | some v1 =>
       rw [hv] at hh
       simp only [Option.map_some, Option.some.injEq] at hh
       obtain rfl := leave h1 v1 hh
       exact main _ e1 h1 hc (.inr rfl) hv hh
     ·cases hh
    ·cases hh
end
end Go.Proofs.Ytahcngeimlkcgaa.Am
