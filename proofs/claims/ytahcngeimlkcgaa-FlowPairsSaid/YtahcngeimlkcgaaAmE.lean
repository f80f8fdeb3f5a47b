/- The abstract machine: cuts and built values. -/
import Derived.Test.YtahcngeimlkcgaaAmD
namespace Go.Proofs.Ytahcngeimlkcgaa.Am
open Go
variable [Marks]
set_option linter.unusedVariables false
set_option linter.unusedSectionVars false
set_option linter.unusedSimpArgs false
section
variable {P : Program} {ρ : Rho}
inductive OR (ρ : Rho) : Option Value → Option Value → Prop
 | no : OR ρ none none
 | so {v v' : Value} (h : VR ρ v v') : OR ρ (some v) (some v')
theorem OR.map {ev ev' : Operand → Value} (x : Option Operand) (h : ∀ o, x = some o → VR ρ (ev o) (ev' o)) : OR ρ (x.map ev) (x.map ev') := by
 cases x with
 | none => exact .no
 | some o => exact .so (h o rfl)
theorem aBnd_run {y i : Nat} {v v' : Value} (h : aBnd y v = some i) (hv : VR ρ v v') : i ≤ y ∧ ∀ (y' : Nat) (code : BoundsCode) (w : World), y ≤ y' → (Instr.sliceBound v' y' code).run P w = .ok i w := by
 cases hv <;> simp [aBnd] at h
 rename_i k n
 obtain ⟨⟨h0, h1⟩, rfl⟩ := h
 refine ⟨by omega, fun y' code w hy => ?_⟩
 have h2 : n ≤ (y' : Int) := by omega
 simp [Instr.sliceBound, asIntOf, h0, h2]
theorem aLow_run {h l h2 : Nat} {m m2 : Option Nat} {lo lo' : Option Value} (hb : aLow h m lo = some (l, h2, m2)) (hl : OR ρ lo lo') :
  h2 = h ∧ m2 = m ∧ l ≤ h ∧ ((lo' = none ∧ l = 0) ∨ ∃ v, lo' = some v ∧ ∀ (code : BoundsCode) (w : World), (Instr.sliceBound v h code).run P w = .ok l w) := by
 cases hl with
 | no => simp [aLow] at hb; obtain ⟨rfl, rfl, rfl⟩ := hb; exact ⟨rfl, rfl, by omega, .inl ⟨rfl, rfl⟩⟩
 | so hv =>
  simp only [aLow] at hb
  rename_i v v'
  cases hx : aBnd h v with
  | none => rw [hx] at hb; cases hb
  | some i =>
   rw [hx] at hb; simp at hb
   obtain ⟨rfl, rfl, rfl⟩ := hb
   obtain ⟨q1, q2⟩ := aBnd_run (P := P) hx hv
   exact ⟨rfl, rfl, q1, .inr ⟨_, rfl, fun code w => q2 _ code w (Nat.le_refl _)⟩⟩
theorem aBounds_run {n c' : Nat} {lo hi mx lo' hi' mx' : Option Value} {l h : Nat} {m : Option Nat} (hb : aBounds n lo hi mx = some (l, h, m)) (hl : OR ρ lo lo') (hh : OR ρ hi hi') (hm : OR ρ mx mx') (hc : n ≤ c') (isSlice : Bool) :
  (∀ w, (Instr.sliceBounds isSlice n c' lo' hi' mx').run P w = .ok (l, h, m.getD c') w) ∧ l ≤ h ∧ h ≤ m.getD n ∧ m.getD n ≤ n := by
 cases hm with
 | no =>
  cases hh with
  | no =>
   obtain ⟨rfl, rfl, q3, q4⟩ := aLow_run (P := P) (show aLow n none lo = some (l, h, m) from hb) hl
   exact ⟨fun w => by rcases q4 with ⟨rfl, rfl⟩ | ⟨u, rfl, q4⟩ <;> simp [Instr.sliceBounds, *], q3, by simp, by simp⟩
  | so hv =>
   rename_i v v'
   simp only [aBounds] at hb
   cases hx : aBnd n v with
   | none => rw [hx] at hb; cases hb
   | some i =>
    rw [hx] at hb
    simp only [Option.bind_some] at hb
    obtain ⟨q1, q2⟩ := aBnd_run (P := P) hx hv
    obtain ⟨rfl, rfl, q3, q4⟩ := aLow_run (P := P) hb hl
    exact ⟨fun w => by rcases q4 with ⟨rfl, rfl⟩ | ⟨u, rfl, q4⟩ <;> simp [Instr.sliceBounds, q2 _ _ _ hc, *], q3, by simpa using q1, by simp⟩
 | so hvm =>
  rename_i vm vm'
  cases hh with
  | no => simp [aBounds] at hb
  | so hv =>
   rename_i v v'
   simp only [aBounds] at hb
   cases hxm : aBnd n vm with
   | none => rw [hxm] at hb; cases hb
   | some im =>
    rw [hxm] at hb
    simp only [Option.bind_some] at hb
    cases hx : aBnd im v with
    | none => rw [hx] at hb; cases hb
    | some i =>
     rw [hx] at hb
     simp only [Option.bind_some] at hb
     obtain ⟨p1, p2⟩ := aBnd_run (P := P) hxm hvm
     obtain ⟨q1, q2⟩ := aBnd_run (P := P) hx hv
     obtain ⟨rfl, rfl, q3, q4⟩ := aLow_run (P := P) hb hl
     exact ⟨fun w => by rcases q4 with ⟨rfl, rfl⟩ | ⟨u, rfl, q4⟩ <;> simp [Instr.sliceBounds, p2 _ _ _ hc, q2 _ _ _ (Nat.le_refl _), *], q3, by simpa using q1, by simpa using p1⟩
theorem aSlice_run {t : TypeId} {x v x' : Value} {lo hi mx lo' hi' mx' : Option Value} (h : aSlice P t x lo hi mx = some v) (hx : VR ρ x x') (hl : OR ρ lo lo') (hh : OR ρ hi hi') (hm : OR ρ mx mx') :
  ∃ v', VR ρ v v' ∧ ∀ w, (Instr.sliceAt t x' lo' hi' mx').run P w = .ok v' w := by
 unfold aSlice at h
 split at h
 ·rename_i s hu
  cases hx
  split at h
  ·cases h
  ·rename_i hmx
   cases hm with
   | so hv => simp at hmx
   | no =>
    cases hb : aBounds s.size lo hi none with
    | none => rw [hb] at h; cases h
    | some b =>
     obtain ⟨l, h2, m⟩ := b
     rw [hb] at h; simp at h; subst h
     obtain ⟨q1, q2, q3, q4⟩ := aBounds_run (P := P) hb hl hh .no (Nat.le_refl _) false
     exact ⟨_, .string _, fun w => by simp [Instr.sliceAt, run_und hu, Instr.slice, q1]⟩
 ·rename_i e a n c hu
  obtain ⟨a', c', rfl, hc1, hc2, hnil, h3⟩ : ∃ a' c', x' = .slice a' n c' ∧ (c = n → c' = n) ∧ n ≤ c' ∧ (a = none → a' = none) ∧ (∀ ad, a = some ad → ∃ ad', a' = some ad' ∧ (0 < n → AR ρ ad ad')) := by
   cases hx with
   | sl0 h1 h2 => exact ⟨_, _, rfl, h1, h2, fun _ => rfl, fun ad h => (by cases h)⟩
   | sl h1 h2 h3 h4 => exact ⟨_, _, rfl, h1, h2, fun h => (by cases h), fun ad h => (by cases h; exact ⟨_, rfl, h3⟩)⟩
  cases hs : tsize P e with
  | none => rw [hs] at h; cases h
  | some s =>
   rw [hs] at h
   simp only [Option.bind_some] at h
   cases hb : aBounds n lo hi mx with
   | none => rw [hb] at h; cases h
   | some b =>
    obtain ⟨l, h2, m⟩ := b
    rw [hb] at h
    simp only [Option.bind_some] at h
    obtain ⟨q1, q2, q3, q4⟩ := aBounds_run (P := P) hb hl hh hm hc2 true
    have hrun : ∀ w, (Instr.sliceAt t (.slice a' n c') lo' hi' mx').run P w = .ok (.slice (if m.getD c' = l then a' else a'.map (·.add (l * s))) (h2 - l) (m.getD c' - l)) w := by
     intro w
     simp [Instr.sliceAt, run_und hu, Instr.slice, q1, run_size hs]
    have hle : h2 ≤ m.getD c' := by
     cases m with
     | none => simp at q3 ⊢; omega
     | some m => simpa using q3
    have hcap1 : (match m with | some m => if m = h2 then h2 - l else h2 - l + 2 | none => if c = n ∧ h2 = n then h2 - l else h2 - l + 2) = h2 - l → m.getD c' - l = h2 - l := by
     cases m with
     | none =>
      simp only [Option.getD_none]
      split
      ·rename_i hcn; intro _; rw [hc1 hcn.1, hcn.2]
      ·intro hh; omega
     | some m =>
      simp only [Option.getD_some]
      split
      ·rename_i hmm; intro _; omega
      ·intro hh; omega
    have hcap2 : (match m with | some m => if m = h2 then h2 - l else h2 - l + 2 | none => if c = n ∧ h2 = n then h2 - l else h2 - l + 2) ≠ h2 - l + 1 := by
     cases m <;> simp only <;> split <;> omega
    cases a with
    | none =>
     simp at h; subst h
     obtain rfl := hnil rfl
     refine ⟨_, ?_, hrun⟩
     simp only [Option.map_none, ite_self]
     exact .sl0 hcap1 (by omega)
    | some ad =>
     simp only at h
     split at h
     ·rename_i hspot
      simp at h; subst h
      obtain ⟨ad', rfl, hAR⟩ := h3 ad rfl
      refine ⟨_, ?_, hrun⟩
      have : (if m.getD c' = l then some ad' else (some ad').map (·.add (l * s))) = some (if m.getD c' = l then ad' else ad'.add (l * s)) := by split <;> simp
      rw [this]
      refine .sl hcap1 (by omega) (fun hpos => ?_) (fun e => absurd e hcap2)
      have hn : 0 < n := by
       have : m.getD n ≤ n := q4
       omega
      rw [if_neg (by omega)]
      exact add_AR (hAR hn) _
     ·cases h
 ·cases h
theorem fold_put (off : Nat) : ∀ (l l' : List Value) (k : Nat) (A A' : Array Value), LR ρ l l' → LR ρ A.toList A'.toList →
  LR ρ ((l.zipIdx k).foldl (fun cs (x : Value × Nat) => cs.setIfInBounds (off + x.2) x.1) A).toList ((l'.zipIdx k).foldl (fun cs (x : Value × Nat) => cs.setIfInBounds (off + x.2) x.1) A').toList ∧
   ((l.zipIdx k).foldl (fun cs (x : Value × Nat) => cs.setIfInBounds (off + x.2) x.1) A).size = A.size := by
 intro l
 induction l with
 | nil => intro l' k A A' h hA; obtain rfl := h.nil_inv; exact ⟨by simpa using hA, by simp⟩
 | cons v l ih =>
  intro l' k A A' h hA
  obtain ⟨v', l', rfl, hv, hl⟩ := h.cons_inv
  have hA2 : LR ρ (A.setIfInBounds (off + k) v).toList (A'.setIfInBounds (off + k) v').toList := by
   refine ⟨by simpa using hA.1, fun i u u' p q => ?_⟩
   simp only [Array.toList_setIfInBounds, List.getElem?_set] at p q
   by_cases e : off + k = i
   ·rw [if_pos e] at p q
    split at p
    ·split at q
     ·cases p; cases q; exact hv
     ·cases q
    ·cases p
   ·rw [if_neg e] at p q; exact hA.2 i u u' p q
  have := ih l' (k + 1) _ _ hl hA2
  simp only [List.zipIdx_cons, List.foldl_cons]
  exact ⟨this.1, by rw [this.2]; simp⟩
theorem fill_run (place : Nat → Option (Nat × Nat)) : ∀ (ps ps' : List (Nat × Value)) (A A' B : Array Value), Instr.fill place A ps = some B → ps.map (·.1) = ps'.map (·.1) → LR ρ (ps.map (·.2)) (ps'.map (·.2)) → LR ρ A.toList A'.toList →
  ∃ B', Instr.fill place A' ps' = some B' ∧ LR ρ B.toList B'.toList ∧ B.size = A.size := by
 intro ps
 induction ps with
 | nil =>
  intro ps' A A' B h h1 h2 hA
  have : ps' = [] := by cases ps' <;> simp at h1 ⊢
  subst this
  simp [Instr.fill] at h
  subst h
  exact ⟨A', by simp [Instr.fill], hA, rfl⟩
 | cons x ps ih =>
  intro ps' A A' B h h1 h2 hA
  obtain ⟨i, v⟩ := x
  cases ps' with
  | nil => simp at h1
  | cons y ps' =>
   obtain ⟨i', v'⟩ := y
   simp only [List.map_cons, List.cons.injEq] at h1 h2
   obtain ⟨rfl, h1⟩ := h1
   have hv := h2.head
   simp only [Instr.fill] at h ⊢
   cases hp : place i with
   | none => rw [hp] at h; cases h
   | some pl =>
    obtain ⟨off, size⟩ := pl
    rw [hp] at h
    simp only at h ⊢
    have hsz : v'.cells.size = v.cells.size := by have := hv.cells.1; simpa using this.symm
    have hAs : A'.size = A.size := by have := hA.1; simpa using this.symm
    split at h
    ·cases h
    ·rename_i hc
     rw [hsz, hAs, if_neg hc]
     have hf := fold_put off v.cells.toList v'.cells.toList 0 A A' hv.cells hA
     have e : ∀ (w : Value) (C : Array Value), w.cells.zipIdx.foldl (fun cs (x : Value × Nat) => cs.setIfInBounds (off + x.2) x.1) C = (w.cells.toList.zipIdx 0).foldl (fun cs (x : Value × Nat) => cs.setIfInBounds (off + x.2) x.1) C := by
      intro w C
      rw [← Array.foldl_toList]
      simp
     rw [e] at h
     obtain ⟨B', q1, q2, q3⟩ := ih ps' _ _ B h h1 h2.tail hf.1
     exact ⟨B', by rw [← e] at q1; exact q1, q2, by rw [q3]; exact hf.2⟩
theorem parts_LR {ev ev' : Operand → Value} (ps : Array (Nat × Operand)) (h : ∀ x ∈ ps, VR ρ (ev x.2) (ev' x.2)) :
  (ps.toList.map fun p => (p.1, ev p.2)).map (·.1) = (ps.toList.map fun p => (p.1, ev' p.2)).map (·.1) ∧ LR ρ ((ps.toList.map fun p => (p.1, ev p.2)).map (·.2)) ((ps.toList.map fun p => (p.1, ev' p.2)).map (·.2)) := by
 refine ⟨by simp, by simp, fun i v v' a b => ?_⟩
 simp only [List.map_map, List.getElem?_map, Function.comp] at a b
 cases hx : ps.toList[i]? with
 | none => rw [hx] at a; cases a
 | some x =>
  rw [hx] at a b
  simp at a b
  subst a; subst b
  exact h x (by simpa using List.mem_of_getElem? hx)
theorem mapM_run {α β : Type} (f : α → Option β) (g : α → Sem β) (w : World) (hfg : ∀ a b, f a = some b → (g a).run P w = .ok b w) : ∀ (l : List α) (r : List β), l.mapM f = some r → (l.mapM g).run P w = .ok r w := by
 intro l
 induction l with
 | nil => intro r h; simp at h; subst h; simp
 | cons a l ih =>
  intro r h
  simp only [List.mapM_cons] at h ⊢
  cases ha : f a with
  | none => rw [ha] at h; simp at h
  | some b =>
   rw [ha] at h
   cases hl : l.mapM f with
   | none => rw [hl] at h; simp at h
   | some bs =>
    rw [hl] at h
    simp at h
    subst h
    simp [hfg a b ha, ih bs hl]
theorem aBuild_run {t : TypeId} {ps ps' : List (Nat × Value)} {v : Value} (h : aBuild P t ps = some v) (h1 : ps.map (·.1) = ps'.map (·.1)) (h2 : LR ρ (ps.map (·.2)) (ps'.map (·.2))) :
  ∃ v', VR ρ v v' ∧ ∀ w, (Instr.build t ps'.toArray).run P w = .ok v' w := by
 unfold aBuild at h
 cases hz : tzero P t with
 | none => rw [hz] at h; cases h
 | some z =>
  rw [hz] at h
  simp only [Option.bind_some] at h
  split at h
  ·rename_i hcl
   have hzc : LR ρ z.cells.toList z.cells.toList := (clean_VR ρ hcl).cells
   split at h
   ·rename_i fields hu
    cases hp : fields.toList.mapM (fun f => (tsize P f.type).map fun s => (f.offset, s)) with
    | none => rw [hp] at h; cases h
    | some places =>
     rw [hp] at h
     simp only [Option.bind_some] at h
     cases hf : Instr.fill (fun i => places[i]?) z.cells ps with
     | none => rw [hf] at h; cases h
     | some B =>
      rw [hf] at h; simp at h; subst h
      obtain ⟨B', q1, q2, q3⟩ := fill_run (ρ := ρ) _ ps ps' z.cells z.cells B hf h1 h2 hzc
      refine ⟨.agg B', by have := q2.to_agg; simpa using this, fun w => ?_⟩
      have hm := mapM_run (P := P) (fun f : Field => (tsize P f.type).map fun s => (f.offset, s)) (fun f => do pure (f.offset, ← sizeOf f.type)) w (fun f b hb => by
       cases hs : tsize P f.type with
       | none => rw [hs] at hb; cases hb
       | some s => rw [hs] at hb; simp at hb; subst hb; simp [run_size hs]) _ _ hp
      have hm2 : (fields.mapM (fun f => do pure (f.offset, ← sizeOf f.type)) : Sem (Array (Nat × Nat))).run P w = .ok places.toArray w := by
       rw [Array.mapM_eq_mapM_toList]
       simp only [Sem.run_map, hm, Result.andThen_ok]
      simp only [Instr.build, Sem.run_bind, run_zero hz, Result.andThen_ok, run_und hu, hm2]
      simp [q1]
   ·rename_i n e hu
    cases hs : tsize P e with
    | none => rw [hs] at h; cases h
    | some s =>
     rw [hs] at h
     simp only [Option.bind_some] at h
     cases hf : Instr.fill (fun i => some (i * s, s)) z.cells ps with
     | none => rw [hf] at h; cases h
     | some B =>
      rw [hf] at h; simp at h; subst h
      obtain ⟨B', q1, q2, q3⟩ := fill_run (ρ := ρ) _ ps ps' z.cells z.cells B hf h1 h2 hzc
      refine ⟨.agg B', by have := q2.to_agg; simpa using this, fun w => ?_⟩
      simp only [Instr.build, Sem.run_bind, run_zero hz, Result.andThen_ok, run_und hu, run_size hs]
      simp [q1]
   ·cases h
  ·cases h
end
end Go.Proofs.Ytahcngeimlkcgaa.Am
