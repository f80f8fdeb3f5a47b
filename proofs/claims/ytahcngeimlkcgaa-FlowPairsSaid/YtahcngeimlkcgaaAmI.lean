/- The abstract machine: append. -/
import Derived.Test.YtahcngeimlkcgaaAmH
namespace Go.Proofs.Ytahcngeimlkcgaa.Am
open Go
variable [Marks]
set_option linter.unusedVariables false
set_option linter.unusedSectionVars false
set_option linter.unusedSimpArgs false
section
variable {P : Program} {ρ : Rho}
theorem blk_fun_alloc (h : AH) (cs : List Value) (z : Nat) : (h.alloc cs z).blk = updB h.blk h.next (some ⟨cs, true, z⟩) := by funext b; simp [AH.blk_alloc, updB]
theorem blk_fun_put (h : AH) (c : Nat) (x : Option ABlk) : (h.put c x).blk = updB h.blk c x := by funext b; simp [AH.blk_put, updB]
theorem bytes_LR (ρ : Rho) (l : List UInt8) : LR ρ (l.map byteV) (l.map byteV) := clean_list ρ fun v hv => by
 simp at hv
 obtain ⟨b, _, rfl⟩ := hv
 exact .int _ _
theorem news_run {w : World} {h : AH} {s m : Nat} {x x' : Value} {cs : List Value} (hs : Sim ρ w h.blk h.next) (hn : aNews s x h = some (m, cs)) (hx : VR ρ x x') :
  ∃ cs', LR ρ cs cs' ∧ cs.length = m * s ∧ (Builtin.lenOf x').run P w = .ok m w ∧ ∀ w2 : World, w2.heap = w.heap → (Builtin.firstCells s m x').run P w2 = .ok cs'.toArray w2 := by
 unfold aNews at hn
 split at hn
 ·rename_i n c
  split at hn
  ·rename_i h0
   simp at hn
   obtain ⟨rfl, rfl⟩ := hn
   subst h0
   cases hx
   exact ⟨[], LR.nil ρ, by simp, by simp [Builtin.lenOf], fun w2 _ => by simp [Builtin.firstCells]⟩
  ·cases hn
 ·rename_i a n c
  cases hc : h.cellsAt a (n * s) with
  | none => rw [hc] at hn; cases hn
  | some l =>
   rw [hc] at hn; simp at hn
   obtain ⟨rfl, rfl⟩ := hn
   obtain ⟨a', c', rfl, h3⟩ : ∃ a' c', x' = .slice (some a') n c' ∧ (0 < n → AR ρ a a') := by
    cases hx with
    | sl h1 h2 h3 h4 => exact ⟨_, _, rfl, h3⟩
   by_cases h0 : n = 0
   ·subst h0
    have hl : l = [] := by
     unfold AH.cellsAt at hc
     split at hc
     ·cases hb : h.blk a.block with
      | none => rw [hb] at hc; cases hc
      | some B =>
       rw [hb] at hc
       simp at hc
       exact by simpa using hc.2.symm
     ·cases hc
    subst hl
    exact ⟨[], LR.nil ρ, by simp, by simp [Builtin.lenOf], fun w2 _ => by simp [Builtin.firstCells, loadCells, loadCellsFrom]⟩
   ·obtain ⟨cs', q1, q2, q3⟩ := cells_run hs hc (h3 (by omega))
    refine ⟨cs', q1, q2, by simp [Builtin.lenOf], fun w2 hw => ?_⟩
    have := run_loadCells_list (P := P) w2 a' cs' (fun j v hv => by rw [← q3 j v hv]; exact World.cell?_of_block (by rw [hw]))
    rw [← q1.1, q2] at this
    simpa [Builtin.firstCells] using this
 ·rename_i b
  split at hn
  ·rename_i h1
   simp at hn
   obtain ⟨rfl, rfl⟩ := hn
   cases hx
   refine ⟨b.data.toList.map byteV, bytes_LR ρ _, by simp [h1], by simp [Builtin.lenOf], fun w2 _ => ?_⟩
   have e : (b.extract 0 b.size) = b := by simp
   simp only [Builtin.firstCells, e, Sem.run_pure]
   congr 1
   apply Array.ext'
   simp [byteV]
  ·cases hn
 ·cases hn
theorem room_le {need cap by_ : Nat} (h : cap < need) (hb : need * by_ ≤ 140737488355328) : ¬ (2 ^ 48 < Builtin.nextslicecap need cap * by_) := by
 have := growslice_fits h hb
 omega
theorem aAppend_run {w : World} {h h' : AH} {t tx ty : TypeId} {sv x sv' x' v : Value} (hs : Sim ρ w h.blk h.next) (ha : aAppend P t tx sv x h = some (v, h')) (hsv : VR ρ sv sv') (hx : VR ρ x x') :
  ∃ ρ' v' w', (Builtin.append_ #[t, tx] ty #[sv', x']).run P w = .ok v' w' ∧ VR ρ' v v' ∧ Sim ρ' w' h'.blk h'.next ∧ Ext ρ h.blk h.next w ρ' h'.blk h'.next w' := by
 unfold aAppend at ha
 split at ha
 ·rename_i e dx base n c hu hdx
  split at ha
  ·rename_i hkind
   have hk2 : (∃ q, dx = .slice q) ∨ dx = .string := by cases dx <;> simp [appKind] at hkind ⊢
   cases hsz : tsize P e with
   | none => rw [hsz] at ha; cases ha
   | some s =>
    rw [hsz] at ha; simp only [Option.bind_some] at ha
    cases hby : tbytes P e with
    | none => rw [hby] at ha; cases ha
    | some by_ =>
     rw [hby] at ha; simp only [Option.bind_some] at ha
     cases hz : tzero P e with
     | none => rw [hz] at ha; cases ha
     | some z =>
      rw [hz] at ha; simp only [Option.bind_some] at ha
      cases hn : aNews s x h with
      | none => rw [hn] at ha; cases ha
      | some mx =>
       obtain ⟨m, news⟩ := mx
       rw [hn] at ha; simp only [Option.bind_some] at ha
       split at ha
       ·rename_i hc
        obtain ⟨hcl, hs0, hzs, hbytes, hmax, hone⟩ := hc
        obtain ⟨news', hl, hlen, hlenOf, hfirst⟩ := news_run (P := P) hs hn hx
        have hone' : ∀ u ∈ news', u.oneCell' = true := by
         intro u hu'
         obtain ⟨i, hi⟩ := List.mem_iff_getElem?.1 hu'
         have hil : i < news.length := by rw [hl.1]; exact (List.getElem?_eq_some_iff.1 hi).1
         have hv := hl.2 i _ u (List.getElem?_eq_getElem hil) hi
         rw [hv.oneCell]
         exact List.all_eq_true.1 hone _ (List.getElem_mem hil)
        obtain ⟨i, hi, hib⟩ : ∃ i, P.info? e = some i ∧ i.bytes = by_ := by
         unfold tbytes at hby
         cases hi : P.info? e with
         | none => rw [hi] at hby; cases hby
         | some i => rw [hi] at hby; exact ⟨i, rfl, by simpa using hby⟩
        have hti : ∀ w : World, (typeInfo e).run P w = .ok i w := fun w => by simp [typeInfo, hi]
        -- the concrete slice
        obtain ⟨base', c', rfl, hc1, hc2, hnil, hsome⟩ : ∃ base' c', sv' = .slice base' n c' ∧ (c = n → c' = n) ∧ n ≤ c' ∧ (base = none → base' = none) ∧
          (∀ a, base = some a → ∃ a', base' = some a' ∧ (0 < n → AR ρ a a') ∧ (c = n + 1 → AR ρ a a' ∧ ∃ p, ρ a.block = some p ∧ a.off + c' * p.sz ≤ p.ext)) := by
         cases hsv with
         | sl0 h1 h2 => exact ⟨_, _, rfl, h1, h2, fun _ => rfl, fun a h => (by cases h)⟩
         | sl h1 h2 h3 h4 => exact ⟨_, _, rfl, h1, h2, fun h => (by cases h), fun a h => (by cases h; exact ⟨_, rfl, h3, h4⟩)⟩
        have hid : ρ h.next = none := by
         cases hr : ρ h.next with
         | none => rfl
         | some p => have := hs.dom _ p hr; omega
        -- growing: what the run comes to
        have grow : ∀ (old' : List Value), c' < n + m → (∀ w2 : World, w2.heap = w.heap → (Builtin.firstCells s n (.slice base' n c')).run P w2 = .ok old'.toArray w2) →
          (Builtin.append_ #[t, tx] ty #[.slice base' n c', x']).run P w = .ok (.slice (some ⟨w.heap.size, 0, none⟩) (n + m) (grownCap w (n + m) c' e))
           (w.drew.alloc (.cells (old'.toArray ++ news'.toArray ++ Builtin.zeroCells z.cells (grownCap w (n + m) c' e - (n + m))) e)) := by
         intro old' hlt hold
         have n1 : ¬ (n + m ≤ c') := by omega
         have n2 : ¬ (((n + m : Nat) : Int) > IntKind.i64.max ∧ (False ∨ i.bytes = 0)) := by
          have : IntKind.i64.max = 9223372036854775807 := by decide
          rw [this]; omega
         have n3 : ¬ (Builtin.nextslicecap (n + m) c' * i.bytes > 2 ^ 48) := by rw [hib]; exact room_le hlt hbytes
         have h1 := hold w.drew rfl
         have h2 := hfirst w.drew rfl
         have hq : (Question.appendCap (n + m) c' e).forced = false := rfl
         unfold Builtin.append_
         simp only [List.getElem?_toArray, List.getElem?_cons_zero, List.getElem?_cons_succ, Sem.run_bind, run_und hu, run_size hsz, run_und hdx, Result.andThen_ok, Sem.run_pure, hlenOf]
         rcases hk2 with ⟨q, rfl⟩ | rfl
         all_goals
          simp only [Bool.false_eq_true, if_false, Sem.run_bind, hlenOf, Result.andThen_ok, n1, Sem.run_ite, hti, n2, n3, run_choose, hq, run_askRoom, World.drew_eq, h1, Bool.not_false, if_true, h2, run_zero hz, newRow, run_newObj, World.alloc_eq, Sem.run_pure]
          rfl
        have zc : ∀ k, (Builtin.zeroCells z.cells k).size = k * s := fun k => by simp [Builtin.zeroCells, hzs]
        -- growing: what stands for what behind it
        have grown : ∀ (old old' : List Value), LR ρ old old' → old.length = n * s → c' < n + m → (∀ w2 : World, w2.heap = w.heap → (Builtin.firstCells s n (.slice base' n c')).run P w2 = .ok old'.toArray w2) →
          ∀ (blk0 : Blks), (∀ b B, blk0 b = some B → h.blk b = some B) → (∀ b, ρ b = none → blk0 b = h.blk b) →
          ∃ ρ' v' w', (Builtin.append_ #[t, tx] ty #[.slice base' n c', x']).run P w = .ok v' w' ∧ VR ρ' (.slice (some ⟨h.next, 0, none⟩) (n + m) (n + m + 1)) v' ∧
           Sim ρ' w' (updB blk0 h.next (some ⟨old ++ news, true, s⟩)) (h.next + 1) ∧ Ext ρ h.blk h.next w ρ' (updB blk0 h.next (some ⟨old ++ news, true, s⟩)) (h.next + 1) w' := by
         intro old old' ho holen hlt hold blk0 hb0 hb1
         have hg := grownCap_ge w (n + m) c' e
         refine ⟨upd ρ h.next ⟨w.heap.size, 0, s, grownCap w (n + m) c' e * s⟩, _, _, grow old' hlt hold, ?_, ?_, ?_⟩
         ·refine .sl (fun q => by omega) hg (fun _ => new_AR (by simp [upd]; exact ⟨rfl, rfl⟩)) (fun _ => ⟨new_AR (by simp [upd]; exact ⟨rfl, rfl⟩), _, by simp [upd]; rfl, by simp⟩)
         ·have hw0 : Sim ρ w.drew blk0 h.next := (hs.less hb0).world rfl
          refine Sim.made (fr := (0, 0)) (el := e) (C := old'.toArray ++ news'.toArray ++ Builtin.zeroCells z.cells (grownCap w (n + m) c' e - (n + m))) hw0 hid (Nat.lt_succ_self _) (Nat.le_succ _) (ho.append hl) (by simp) (fun k hk => heap_alloc_old w.drew _ k hk) (heap_alloc_new w.drew _) ?_ ?_ ?_ (.inl rfl)
          ·intro i v hv
           have hlt2 : i < (old' ++ news').length := (List.getElem?_eq_some_iff.1 hv).1
           rw [Array.getElem?_append_left (by simpa using hlt2)]
           simpa using hv
          ·have h1 : old'.length = n * s := by rw [← ho.1]; exact holen
           have h2 : news'.length = m * s := by rw [← hl.1]; exact hlen
           simp only [Array.size_append, List.size_toArray, h1, h2, zc, ← Nat.add_mul]
           exact Nat.mul_le_mul_right _ (by omega)
          ·rw [List.length_append, holen, hlen, ← Nat.add_mul]
           exact Nat.mul_le_mul_right _ hg
         ·have hE := Ext.made (ρ := ρ) (w := w) (blk := h.blk) (next := h.next) (next' := h.next + 1) (w1 := w.drew.alloc (.cells (old'.toArray ++ news'.toArray ++ Builtin.zeroCells z.cells (grownCap w (n + m) c' e - (n + m))) e)) hid (Nat.le_refl _) (Nat.le_succ _) (pl := ⟨w.heap.size, 0, s, grownCap w (n + m) c' e * s⟩) rfl (B := ⟨old ++ news, true, s⟩) (by simp) (fun k hk => heap_alloc_old w.drew _ k hk) rfl rfl rfl
          exact ⟨hE.le, hE.os, hE.tape, hE.output, hE.size, hE.nx, hE.keep, fun k hk ⟨b, B, p, q1, q2, q3, q4⟩ => by
           by_cases eb : b = h.next
           ·subst eb; exact hE.owns k hk ⟨h.next, B, p, by simpa [updB] using q1, q2, q3, q4⟩
           ·exact hE.owns k hk ⟨b, B, p, by simpa [updB, eb] using hb0 b B (by simpa [updB, eb] using q1), q2, q3, q4⟩, hE.new, fun b hb hr => by
            simp only [updB]
            rw [if_neg (by omega)]
            exact hb1 b hr⟩
        by_cases hm : m = 0
        · -- nothing is put behind
         rw [if_pos hm] at ha
         simp at ha
         obtain ⟨rfl, rfl⟩ := ha
         subst hm
         have hn0 : news' = [] := by
          have h1 : news.length = 0 := by rw [hlen]; simp
          have : news'.length = 0 := by rw [← hl.1]; exact h1
          exact List.eq_nil_of_length_eq_zero this
         subst hn0
         refine ⟨ρ, .slice base' n c', w, ?_, hsv, hs, Ext.refl _ _ _ _⟩
         have h2 := hfirst w rfl
         unfold Builtin.append_
         simp only [List.getElem?_toArray, List.getElem?_cons_zero, List.getElem?_cons_succ, Sem.run_bind, run_und hu, run_size hsz, run_und hdx, Result.andThen_ok, Sem.run_pure, hlenOf]
         rcases hk2 with ⟨q, rfl⟩ | rfl
         all_goals
          simp only [Bool.false_eq_true, if_false, Sem.run_bind, hlenOf, Result.andThen_ok, Nat.add_zero, hc2, if_true, Bool.not_false, h2]
          cases base' <;> simp [storeCells]
        ·rw [if_neg hm] at ha
         cases hbase : base with
         | none =>
          rw [hbase] at ha
          simp only at ha
          split at ha
          ·rename_i h0
           obtain ⟨rfl, rfl⟩ := h0
           simp at ha
           obtain ⟨rfl, rfl⟩ := ha
           obtain rfl := hnil hbase
           have := hc1 rfl
           subst this
           obtain ⟨ρ', v', w', r1, r2, r3, r4⟩ := grown [] [] (LR.nil ρ) (by simp) (by omega) (fun w2 _ => by simp [Builtin.firstCells]) h.blk (fun _ _ h => h) (fun _ _ => rfl)
           simp only [Nat.zero_add, List.nil_append] at r2 r3 r4
           exact ⟨ρ', v', w', r1, r2, by rw [blk_fun_alloc]; exact r3, by rw [blk_fun_alloc]; exact r4⟩
          ·cases ha
         | some a =>
          rw [hbase] at ha
          simp only at ha
          obtain ⟨a', rfl, hAR, happ⟩ := hsome a hbase
          split at ha
          ·rename_i hcn
           have hcc := hc1 hcn
           cases hold : h.cellsAt a (n * s) with
           | none => rw [hold] at ha; cases ha
           | some old =>
            rw [hold] at ha; simp at ha
            obtain ⟨rfl, rfl⟩ := ha
            have holdR : ∃ old', LR ρ old old' ∧ old.length = n * s ∧ ∀ w2 : World, w2.heap = w.heap → (Builtin.firstCells s n (.slice (some a') n c')).run P w2 = .ok old'.toArray w2 := by
             by_cases h0 : n = 0
             ·subst h0
              have hl0 : old = [] := by
               unfold AH.cellsAt at hold
               split at hold
               ·cases hb : h.blk a.block with
                | none => rw [hb] at hold; cases hold
                | some B => rw [hb] at hold; simp at hold; exact by simpa using hold.2.symm
               ·cases hold
              subst hl0
              exact ⟨[], LR.nil ρ, by simp, fun w2 _ => by simp [Builtin.firstCells, loadCells, loadCellsFrom]⟩
             ·obtain ⟨cs', q1, q2, q3⟩ := cells_run hs hold (hAR (by omega))
              refine ⟨cs', q1, q2, fun w2 hw => ?_⟩
              have := run_loadCells_list (P := P) w2 a' cs' (fun j v hv => by rw [← q3 j v hv]; exact World.cell?_of_block (by rw [hw]))
              rw [← q1.1, q2] at this
              simpa [Builtin.firstCells] using this
            obtain ⟨old', o1, o2, o3⟩ := holdR
            obtain ⟨ρ', v', w', r1, r2, r3, r4⟩ := grown old old' o1 o2 (by omega) o3 h.blk (fun _ _ h => h) (fun _ _ => rfl)
            exact ⟨ρ', v', w', r1, r2, by rw [blk_fun_alloc]; exact r3, by rw [blk_fun_alloc]; exact r4⟩
          ·split at ha
           ·rename_i hcn hc1'
            obtain ⟨hca, hspot⟩ := hc1'
            obtain ⟨hAR', p, hp, hext⟩ := happ hca
            cases hB : h.blk a.block with
            | none => rw [hB] at ha; cases ha
            | some B =>
             rw [hB] at ha
             simp only [Option.bind_some] at ha
             split at ha
             ·rename_i hB2
              obtain ⟨hown, hesz, hend⟩ := hB2
              simp at ha
              obtain ⟨rfl, rfl⟩ := ha
              obtain ⟨_, p', hp', rfl⟩ := hAR'
              rw [hp] at hp'; cases hp'
              obtain ⟨he, hBl, cur, el, fr, g1, g2, g3⟩ := hs.own _ B p hB hp hown
              have hps : p.sz = s := by rw [← he]; exact hesz
              rw [hps] at hext
              by_cases hfit : n + m ≤ c'
              · -- in its place
               have hroom : (n + m) * s ≤ c' * s := Nat.mul_le_mul_right _ hfit
               have hnm : (n + m) * s = n * s + m * s := Nat.add_mul _ _ _
               have hl2 : news'.length = m * s := by rw [← hl.1]; exact hlen
               obtain ⟨w', cur', r1, r2, r3, r4, r5, r6, r7, r8, r9⟩ := storeCells_run (P := P) p.blk (p.off + a.off + n * s) news' 0 w cur el fr g1 (by omega) (fun j q1 q2 => unfrozen g3 j (by omega)) hone'
               have hrun : (Builtin.append_ #[t, tx] ty #[.slice (some ⟨p.blk, p.off + a.off, none⟩) n c', x']).run P w = .ok (.slice (some ⟨p.blk, p.off + a.off, none⟩) (n + m) c') w' := by
                have h2 := hfirst w rfl
                have hadd : (⟨p.blk, p.off + a.off, none⟩ : Addr).add (n * s) = ⟨p.blk, p.off + a.off + n * s, none⟩ := by unfold Addr.add; split <;> simp_all
                unfold Builtin.append_
                simp only [List.getElem?_toArray, List.getElem?_cons_zero, List.getElem?_cons_succ, Sem.run_bind, run_und hu, run_size hsz, run_und hdx, Result.andThen_ok, Sem.run_pure, hlenOf]
                rcases hk2 with ⟨q, rfl⟩ | rfl
                all_goals
                 simp only [Bool.false_eq_true, if_false, Sem.run_bind, hlenOf, Result.andThen_ok, hfit, if_true, Bool.not_false, h2, hadd, r1, Sem.run_pure, List.toList_toArray]
               have hcells : ∀ (i : Nat) v, (B.cells ++ news)[i]? = some v → ∃ v', cur'[p.off + i]? = some v' ∧ VR ρ v v' := by
                intro i v hv
                rw [r4]
                by_cases hi2 : i < B.cells.length
                ·rw [List.getElem?_append_left hi2] at hv
                 obtain ⟨v', q1, q2⟩ := hs.cell _ B p hB hp i v hv
                 rw [cell_at g1] at q1
                 exact ⟨v', by rw [if_neg (by omega)]; exact q1, q2⟩
                ·rw [List.getElem?_append_right (by omega)] at hv
                 obtain ⟨v', q1, q2⟩ := hl.get hv
                 have hi3 : i - B.cells.length < news'.length := (List.getElem?_eq_some_iff.1 q1).1
                 exact ⟨v', by rw [if_pos (by omega)]; rw [← q1]; congr 1; omega, q2⟩
               have hlen3 : (B.cells ++ news).length ≤ p.ext := by rw [List.length_append]; omega
               have hS1 := hs.wrote hB hp hown g1 r2 r3 r5 r6 hlen3 hcells
               have hE1 := Ext.wrote (next := h.next) hB hp hown r5 r6 r7 r8 r9 (some ⟨B.cells ++ news, true, B.esz⟩)
               have hB1 : updB h.blk a.block (some ⟨B.cells ++ news, true, B.esz⟩) a.block = some ⟨B.cells ++ news, true, B.esz⟩ := by simp [updB]
               have hS2 := hS1.moved hB1 hp rfl (id := h.next) (next' := h.next + 1) hid (Nat.lt_succ_self _) (Nat.le_succ _) a.off (by omega) (by omega)
               have hE2 := Ext.moved (w := w') (next := h.next) (next' := h.next + 1) hB1 hp rfl (id := h.next) hid (Nat.le_refl _) (Nat.le_succ _) (pl := ⟨p.blk, p.off + a.off, p.sz, p.ext - a.off⟩) rfl ⟨(B.cells ++ news).drop a.off, true, B.esz⟩
               have hdrop : (B.cells ++ news).drop a.off = B.cells.drop a.off ++ news := by rw [List.drop_append_of_le_length (by omega)]
               have hbl : updB (updB (updB h.blk a.block (some ⟨B.cells ++ news, true, B.esz⟩)) a.block none) h.next (some ⟨(B.cells ++ news).drop a.off, true, B.esz⟩) = ((h.put a.block none).alloc (B.cells.drop a.off ++ news) s).blk := by
                rw [blk_fun_alloc, AH.next_put, blk_fun_put, hdrop, hesz]
                funext b
                simp only [updB]
                by_cases e1 : b = h.next
                ·rw [if_pos e1, if_pos e1]
                ·rw [if_neg e1, if_neg e1]
                 by_cases e2 : b = a.block
                 ·rw [if_pos e2, if_pos e2]
                 ·rw [if_neg e2, if_neg e2, if_neg e2]
               simp only at hS2 hE2
               rw [hbl] at hS2 hE2
               refine ⟨_, _, w', hrun, ?_, hS2, hE1.trans hE2⟩
               have hup : upd ρ h.next ⟨p.blk, p.off + a.off, p.sz, p.ext - a.off⟩ h.next = some ⟨p.blk, p.off + a.off, p.sz, p.ext - a.off⟩ := by simp [upd]
               refine .sl (fun q => by omega) hfit (fun _ => ⟨rfl, _, hup, by simp⟩) (fun _ => ⟨⟨rfl, _, hup, by simp⟩, _, hup, ?_⟩)
               simp only [hps]; omega
              · -- in a new one
               have hold : h.cellsAt a (n * s) = some (B.cells.drop a.off) := by
                simp only [AH.cellsAt, hspot, hB, Option.bind_some]
                rw [if_pos (by omega), List.take_of_length_le (by simp; omega)]
               obtain ⟨cs', q1, q2, q3⟩ := cells_run hs hold ⟨hspot, p, hp, rfl⟩
               obtain ⟨ρ', v', w', r1, r2, r3, r4⟩ := grown _ cs' q1 q2 (by omega) (fun w2 hw => by
                have := run_loadCells_list (P := P) w2 ⟨p.blk, p.off + a.off, none⟩ cs' (fun j v hv => by rw [← q3 j v hv]; exact World.cell?_of_block (by rw [hw]))
                rw [← q1.1, q2] at this
                simpa [Builtin.firstCells] using this) (updB h.blk a.block none) (fun b C hC => by
                 by_cases e : b = a.block
                 ·subst e; simp [updB] at hC
                 ·simpa [updB, e] using hC) (fun b hr => by
                 simp only [updB]
                 rw [if_neg (fun e => by subst e; rw [hp] at hr; cases hr)])
               exact ⟨ρ', v', w', r1, r2, by rw [blk_fun_alloc, blk_fun_put]; exact r3, by rw [blk_fun_alloc, blk_fun_put]; exact r4⟩
             ·cases ha
           ·cases ha
       ·cases ha
  ·cases ha
 ·cases ha
end
end Go.Proofs.Ytahcngeimlkcgaa.Am
