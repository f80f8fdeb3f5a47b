/- The abstract machine: conversions, stores; any operation. -/
import Derived.Test.YtahcngeimlkcgaaAmI
namespace Go.Proofs.Ytahcngeimlkcgaa.Am
open Go
variable [Marks]
set_option linter.unusedVariables false
set_option linter.unusedSectionVars false
set_option linter.unusedSimpArgs false
section
variable {P : Program} {ρ : Rho}
theorem bytesOf_run : ∀ (cs cs' : List Value) (bs : List UInt8), bytesOf cs = some bs → LR ρ cs cs' → ∃ ns : List Int, cs' = ns.map (Value.int .u8) ∧ bs = ns.map fun n => UInt8.ofNat n.toNat := by
 intro cs
 induction cs with
 | nil => intro cs' bs h hl; obtain rfl := hl.nil_inv; simp [bytesOf] at h; subst h; exact ⟨[], rfl, rfl⟩
 | cons c cs ih =>
  intro cs' bs h hl
  obtain ⟨c', cs', rfl, hc, hl'⟩ := hl.cons_inv
  cases hc <;> first | (simp only [bytesOf] at h; cases h; done) | skip
  rename_i k n
  cases k <;> first | (simp only [bytesOf] at h; cases h; done) | skip
  simp [bytesOf] at h
  obtain ⟨bs', h1, rfl⟩ := h
  obtain ⟨ns, rfl, rfl⟩ := ih _ _ h1 hl'
  exact ⟨n :: ns, rfl, rfl⟩
theorem push_fold : ∀ (ns : List Int) (l : List UInt8), ns.foldl (fun (r : ByteArray) n => r.push (UInt8.ofNat n.toNat)) ⟨l.toArray⟩ = ⟨(l ++ ns.map fun n => UInt8.ofNat n.toNat).toArray⟩ := by
 intro ns
 induction ns with
 | nil => intro l; simp
 | cons n ns ih =>
  intro l
  simp only [List.foldl_cons, List.map_cons]
  have : (⟨l.toArray⟩ : ByteArray).push (UInt8.ofNat n.toNat) = ⟨(l ++ [UInt8.ofNat n.toNat]).toArray⟩ := by
   simp [ByteArray.push]
  rw [this, ih]
  simp
theorem Sim.marked {w : World} {blk : Blks} {next : Nat} (h : Sim ρ w blk next) {g : Nat} {cur : Array Value} {el : TypeId} {fr : Nat × Nat} (hg : w.heap[g]? = some (.cells cur el fr)) :
  Sim ρ (w.freeze ⟨g, cur.size, none⟩ 1) blk next ∧ (∀ k, k ≠ g → (w.freeze ⟨g, cur.size, none⟩ 1).heap[k]? = w.heap[k]?) ∧ (w.freeze ⟨g, cur.size, none⟩ 1).heap.size = w.heap.size := by
 have hother : ∀ k, k ≠ g → (w.freeze ⟨g, cur.size, none⟩ 1).heap[k]? = w.heap[k]? := fun k hk => by simp [World.freeze, Array.getElem?_modify, Ne.symm hk]
 have hsame : ∃ fr', (w.freeze ⟨g, cur.size, none⟩ 1).heap[g]? = some (.cells cur el fr') ∧ (fr' = (cur.size, cur.size + 1) ∨ (fr.1 ≠ fr.2 ∧ fr' = (min fr.1 cur.size, max fr.2 (cur.size + 1)))) := by
  obtain ⟨lo, hi⟩ := fr
  by_cases e : lo = hi
  ·refine ⟨(cur.size, cur.size + 1), ?_, .inl rfl⟩
   simp [World.freeze, Array.getElem?_modify, hg, e]
  ·refine ⟨(min lo cur.size, max hi (cur.size + 1)), ?_, .inr ⟨e, rfl⟩⟩
   simp [World.freeze, Array.getElem?_modify, hg, e]
 have hsz : (w.freeze ⟨g, cur.size, none⟩ 1).heap.size = w.heap.size := by simp [World.freeze]
 obtain ⟨fr', hs1, hs2⟩ := hsame
 refine ⟨⟨h.dom, fun b p q => by rw [hsz]; exact h.lt b p q, fun b B p q r i v hv => ?_, fun b B p q r s => ?_, h.apart, h.live⟩, hother, hsz⟩
 ·obtain ⟨v', q1, q2⟩ := h.cell b B p q r i v hv
  refine ⟨v', ?_, q2⟩
  by_cases e : p.blk = g
  ·rw [e] at q1 ⊢
   rw [cell_at hs1]
   rw [cell_at hg] at q1
   exact q1
  ·rw [← q1]; exact World.cell?_of_block (hother _ e)
 ·obtain ⟨h1, h2, c0, e0, f0, h3, h4, h5⟩ := h.own b B p q r s
  by_cases e : p.blk = g
  ·rw [e] at h3 ⊢
   rw [hg] at h3
   injection h3 with h3
   injection h3 with e1 e2 e3
   subst e1; subst e2; subst e3
   refine ⟨h1, h2, cur, el, fr', hs1, h4, ?_⟩
   rcases hs2 with rfl | ⟨hne, rfl⟩
   ·exact .inr h4
   ·right
    rcases h5 with h5 | h5
    ·exact absurd h5 hne
    ·simp only; omega
  ·exact ⟨h1, h2, c0, e0, f0, by rw [hother _ e]; exact h3, h4, h5⟩
theorem aConvert_run {w : World} {h h' : AH} {src dst : TypeId} {x x' v : Value} (hs : Sim ρ w h.blk h.next) (hc : aConvert P src dst x h = some (v, h')) (hx : VR ρ x x') :
  ∃ ρ' v' w', (convert src dst x').run P w = .ok v' w' ∧ VR ρ' v v' ∧ Sim ρ' w' h'.blk h'.next ∧ Ext ρ h.blk h.next w ρ' h'.blk h'.next w' := by
 unfold aConvert at hc
 split at hc
 ·rename_i d k k2 n hus hud
  simp at hc; obtain ⟨rfl, rfl⟩ := hc
  cases hx
  exact ⟨ρ, _, w, by simp [convert, run_und hus, run_und hud, Conv.intToInt], .int _ _, hs, Ext.refl _ _ _ _⟩
 ·rename_i d s hus hud
  simp at hc; obtain ⟨rfl, rfl⟩ := hc
  cases hx
  exact ⟨ρ, _, w, by simp [convert, run_und hus, run_und hud], .string _, hs, Ext.refl _ _ _ _⟩
 ·rename_i e s hus hud
  split at hc
  ·rename_i he
   simp at hc; obtain ⟨rfl, rfl⟩ := hc
   cases hx
   have hid : ρ h.next = none := by
    cases hr : ρ h.next with
    | none => rfl
    | some p => have := hs.dom _ p hr; omega
   have hcell : ∀ (i : Nat) v, (s.data.toList.map byteV)[i]? = some v → (Lib.bytesCells w e s)[i]? = some v := by
    intro i v hv
    have hlt : i < (s.data.toList.map byteV).length := (List.getElem?_eq_some_iff.1 hv).1
    have hlt2 : i < (s.data.map fun b => Value.int .u8 (b.toNat : Int)).size := by simpa using hlt
    unfold Lib.bytesCells
    rw [Array.getElem?_append_left hlt2]
    simpa [byteV] using hv
   have hsz : s.size ≤ (Lib.bytesCells w e s).size := by simp [Lib.bytesCells]
   refine ⟨upd ρ h.next ⟨w.heap.size, 0, 1, s.size⟩, _, _, Lib.run_convert_string_bytes w src dst e s hus hud he, ?_, ?_, ?_⟩
   ·exact .sl (fun q => by omega) (grownCap_ge w s.size 0 e) (fun _ => new_AR (sz := 1) (ext := s.size) (by simp [upd])) (fun q => by omega)
   ·rw [blk_fun_alloc]
    exact Sim.made hs hid (Nat.lt_succ_self _) (Nat.le_succ _) (bytes_LR ρ _) (Lib.bytesWorld_size w e s) (fun k hk => Lib.bytesWorld_at_old w e s k hk) (Lib.bytesWorld_at_new w e s) hcell hsz (by simp) (.inr hsz)
   ·rw [blk_fun_alloc]
    exact Ext.made hid (Nat.le_refl _) (Nat.le_succ _) rfl (Lib.bytesWorld_size w e s) (fun k hk => Lib.bytesWorld_at_old w e s k hk) rfl rfl rfl
  ·cases hc
 ·rename_i e0 e a n c hus hud
  split at hc
  ·rename_i he
   split at hc
   ·rename_i hcond
    obtain ⟨rfl, hn, hown⟩ := hcond
    simp at hc; obtain ⟨rfl, rfl⟩ := hc
    obtain ⟨a', c', rfl, h3⟩ : ∃ a' c', x' = .slice (some a') n c' ∧ (0 < n → AR ρ a a') := by
     cases hx with
     | sl h1 h2 h3 h4 => exact ⟨_, _, rfl, h3⟩
    obtain ⟨hsp, p, hp, rfl⟩ := h3 hn
    cases hB : h.blk a.block with
    | none => rw [hB] at hown; cases hown
    | some B =>
     rw [hB] at hown
     simp at hown
     obtain ⟨h1, h2, cur, el, fr, g1, g2, g3⟩ := hs.own _ B p hB hp hown
     obtain ⟨m1, m2, m3⟩ := hs.marked g1
     refine ⟨ρ, _, w.freeze ⟨p.blk, cur.size, none⟩ 1, ?_, hx, m1, ?_⟩
     ·have hsh : w.shape? p.blk = some (el, cur.size) := by simp [World.shape?, g1]
      have he0 : e0 = e := by rw [hus] at hud; cases hud; rfl
      subst he0
      simp [convert, run_und hus, run_und he, markStringish, hsh]
     ·exact ⟨Rle.refl _, rfl, rfl, rfl, by omega, Nat.le_refl _, fun k hk ho => m2 k fun e => ho ⟨_, B, p, hB, hown, hp, e.symm⟩, fun k _ q => q, fun _ _ q => .inl q, fun _ _ _ => rfl⟩
   ·cases hc
  ·cases hc
 ·rename_i e n c hus hud
  split at hc
  ·rename_i he
   simp at hc; obtain ⟨rfl, rfl⟩ := hc
   obtain ⟨c', rfl⟩ : ∃ c', x' = .slice none n c' := by
    cases hx with
    | sl0 h1 h2 => exact ⟨_, rfl⟩
   exact ⟨ρ, _, w, by rw [run_convert_bytes_string w src dst e none n c' hus he hud]; simp [Conv.bytesToString], .string _, hs, Ext.refl _ _ _ _⟩
  ·cases hc
 ·rename_i e a n c hus hud
  split at hc
  ·rename_i he
   obtain ⟨a', c', rfl, h3⟩ : ∃ a' c', x' = .slice (some a') n c' ∧ (0 < n → AR ρ a a') := by
    cases hx with
    | sl h1 h2 h3 h4 => exact ⟨_, _, rfl, h3⟩
   split at hc
   ·rename_i h0
    subst h0
    simp at hc; obtain ⟨rfl, rfl⟩ := hc
    refine ⟨ρ, .string .empty, w, ?_, .string _, hs, Ext.refl _ _ _ _⟩
    rw [run_convert_bytes_string w src dst e (some a') 0 c' hus he hud, run_bytesToString w a' 0 c' [] (by simp [loadCells, loadCellsFrom])]
    rfl
   ·rename_i h0
    cases hcs : h.cellsAt a n with
    | none => rw [hcs] at hc; cases hc
    | some cs =>
     rw [hcs] at hc
     simp only [Option.bind_some] at hc
     cases hbs : bytesOf cs with
     | none => rw [hbs] at hc; cases hc
     | some bs =>
      rw [hbs] at hc
      simp at hc; obtain ⟨rfl, rfl⟩ := hc
      obtain ⟨cs', q1, q2, q3⟩ := cells_run hs hcs (h3 (by omega))
      obtain ⟨ns, rfl, rfl⟩ := bytesOf_run _ _ _ hbs q1
      have hns := run_loadCells_list (P := P) w a' _ q3
      rw [← q1.1, q2] at hns
      refine ⟨ρ, _, w, ?_, .string _, hs, Ext.refl _ _ _ _⟩
      rw [run_convert_bytes_string w src dst e (some a') n c' hus he hud, run_bytesToString w a' n c' ns hns]
      have := push_fold ns []
      simp only [List.nil_append] at this
      rw [← this]
      rfl
  ·cases hc
 ·cases hc
theorem aStore_run {w : World} {h h' : AH} {t : TypeId} {x x' v v' : Value} (hs : Sim ρ w h.blk h.next) (hst : aStore P t x v h = some h') (hx : VR ρ x x') (hv : VR ρ v v') :
  ∃ w', (Instr.storeAt t x' v').run P w = .ok () w' ∧ Sim ρ w' h'.blk h'.next ∧ Ext ρ h.blk h.next w ρ h'.blk h'.next w' := by
 unfold aStore at hst
 split at hst
 ·rename_i a
  obtain ⟨a', rfl, ha⟩ : ∃ a', x' = .pointer (some a') ∧ AR ρ a a' := by
   cases hx with
   | ptr h => exact ⟨_, rfl, h⟩
  cases hz : tsize P t with
  | none => rw [hz] at hst; cases hst
  | some s =>
   rw [hz] at hst
   simp only [Option.bind_some] at hst
   split at hst
   ·rename_i hvs
    obtain ⟨hsp, p, hp, rfl⟩ := ha
    simp only [AH.store, hsp] at hst
    cases hB : h.blk a.block with
    | none => rw [hB] at hst; cases hst
    | some B =>
     rw [hB] at hst
     simp only [Option.bind_some] at hst
     split at hst
     ·rename_i hcond
      obtain ⟨hown, hlen, hone⟩ := hcond
      injection hst with hst
      subst hst
      have hl := hv.cells
      obtain ⟨h1, h2, cur, el, fr, g1, g2, g3⟩ := hs.own _ B p hB hp hown
      have hone' : ∀ u ∈ v'.cells.toList, u.oneCell' = true := by
       intro u hu'
       obtain ⟨i, hi⟩ := List.mem_iff_getElem?.1 hu'
       have hil : i < v.cells.toList.length := by rw [hl.1]; exact (List.getElem?_eq_some_iff.1 hi).1
       have hvv := hl.2 i _ u (List.getElem?_eq_getElem hil) hi
       rw [hvv.oneCell]
       exact List.all_eq_true.1 hone _ (List.getElem_mem hil)
      have hll : v'.cells.toList.length = v.cells.toList.length := hl.1.symm
      obtain ⟨w', cur', r1, r2, r3, r4, r5, r6, r7, r8, r9⟩ := storeCells_run (P := P) p.blk (p.off + a.off) v'.cells.toList 0 w cur el fr g1 (by omega) (fun j q1 q2 => unfrozen g3 j (by omega)) hone'
      have hcells : ∀ (i : Nat) u, (B.cells.take a.off ++ v.cells.toList ++ B.cells.drop (a.off + v.cells.toList.length))[i]? = some u → ∃ u', cur'[p.off + i]? = some u' ∧ VR ρ u u' := by
       intro i u hu
       rw [r4, hll]
       have htl : (B.cells.take a.off).length = a.off := by rw [List.length_take]; omega
       by_cases i1 : i < a.off
       ·rw [List.append_assoc, List.getElem?_append_left (by omega), List.getElem?_take, if_pos i1] at hu
        obtain ⟨u', q1, q2⟩ := hs.cell _ B p hB hp i u hu
        rw [cell_at g1] at q1
        exact ⟨u', by rw [if_neg (by omega)]; exact q1, q2⟩
       ·by_cases i2 : i < a.off + v.cells.toList.length
        ·rw [List.append_assoc, List.getElem?_append_right (by omega), htl, List.getElem?_append_left (by omega)] at hu
         obtain ⟨u', q1, q2⟩ := hl.get hu
         refine ⟨u', ?_, q2⟩
         rw [if_pos (by omega), ← q1]
         congr 1
         omega
        ·rw [List.getElem?_append_right (by rw [List.length_append]; omega), List.getElem?_drop, List.length_append, htl] at hu
         obtain ⟨u', q1, q2⟩ := hs.cell _ B p hB hp _ u hu
         rw [cell_at g1] at q1
         refine ⟨u', ?_, q2⟩
         rw [if_neg (by omega), ← q1]
         congr 1
         omega
      have hnl : (B.cells.take a.off ++ v.cells.toList ++ B.cells.drop (a.off + v.cells.toList.length)).length ≤ p.ext := by
       simp only [List.length_append, List.length_take, List.length_drop]; omega
      have hsz : v'.cells.size = s := by have := hll; simp only [Array.length_toList] at this; omega
      refine ⟨w', ?_, ?_, ?_⟩
      ·simp [Instr.storeAt, Instr.sureAddr, storeVar, run_size hz, hsz, r1]
      ·rw [blk_fun_put]
       exact hs.wrote hB hp hown g1 r2 r3 r5 r6 hnl hcells
      ·rw [blk_fun_put]
       exact Ext.wrote hB hp hown r5 r6 r7 r8 r9 _
     ·cases hst
   ·cases hst
 ·cases hst
theorem store_run {w : World} {h h' : AH} {a a' : Addr} {cs cs' : List Value} (hs : Sim ρ w h.blk h.next) (hst : h.store a cs = some h') (ha : AR ρ a a') (hl : LR ρ cs cs') :
  ∃ w', (storeCells a' cs').run P w = .ok () w' ∧ Sim ρ w' h'.blk h'.next ∧ Ext ρ h.blk h.next w ρ h'.blk h'.next w' := by
  obtain ⟨hsp, p, hp, rfl⟩ := ha
  simp only [AH.store, hsp] at hst
  cases hB : h.blk a.block with
  | none => rw [hB] at hst; cases hst
  | some B =>
   rw [hB] at hst
   simp only [Option.bind_some] at hst
   split at hst
   ·rename_i hcond
    obtain ⟨hown, hlen, hone⟩ := hcond
    injection hst with hst
    subst hst
    obtain ⟨h1, h2, cur, el, fr, g1, g2, g3⟩ := hs.own _ B p hB hp hown
    have hone' : ∀ u ∈ cs', u.oneCell' = true := by
     intro u hu'
     obtain ⟨i, hi⟩ := List.mem_iff_getElem?.1 hu'
     have hil : i < cs.length := by rw [hl.1]; exact (List.getElem?_eq_some_iff.1 hi).1
     have hvv := hl.2 i _ u (List.getElem?_eq_getElem hil) hi
     rw [hvv.oneCell]
     exact List.all_eq_true.1 hone _ (List.getElem_mem hil)
    have hll : cs'.length = cs.length := hl.1.symm
    obtain ⟨w', cur', r1, r2, r3, r4, r5, r6, r7, r8, r9⟩ := storeCells_run (P := P) p.blk (p.off + a.off) cs' 0 w cur el fr g1 (by omega) (fun j q1 q2 => unfrozen g3 j (by omega)) hone'
    have hcells : ∀ (i : Nat) u, (B.cells.take a.off ++ cs ++ B.cells.drop (a.off + cs.length))[i]? = some u → ∃ u', cur'[p.off + i]? = some u' ∧ VR ρ u u' := by
     intro i u hu
     rw [r4, hll]
     have htl : (B.cells.take a.off).length = a.off := by rw [List.length_take]; omega
     by_cases i1 : i < a.off
     ·rw [List.append_assoc, List.getElem?_append_left (by omega), List.getElem?_take, if_pos i1] at hu
      obtain ⟨u', q1, q2⟩ := hs.cell _ B p hB hp i u hu
      rw [cell_at g1] at q1
      exact ⟨u', by rw [if_neg (by omega)]; exact q1, q2⟩
     ·by_cases i2 : i < a.off + cs.length
      ·rw [List.append_assoc, List.getElem?_append_right (by omega), htl, List.getElem?_append_left (by omega)] at hu
       obtain ⟨u', q1, q2⟩ := hl.get hu
       refine ⟨u', ?_, q2⟩
       rw [if_pos (by omega), ← q1]
       congr 1
       omega
      ·rw [List.getElem?_append_right (by rw [List.length_append]; omega), List.getElem?_drop, List.length_append, htl] at hu
       obtain ⟨u', q1, q2⟩ := hs.cell _ B p hB hp _ u hu
       rw [cell_at g1] at q1
       refine ⟨u', ?_, q2⟩
       rw [if_neg (by omega), ← q1]
       congr 1
       omega
    have hnl : (B.cells.take a.off ++ cs ++ B.cells.drop (a.off + cs.length)).length ≤ p.ext := by
     simp only [List.length_append, List.length_take, List.length_drop]; omega
    refine ⟨w', ?_, ?_, ?_⟩
    ·exact r1
    ·rw [blk_fun_put]
     exact hs.wrote hB hp hown g1 r2 r3 r5 r6 hnl hcells
    ·rw [blk_fun_put]
     exact Ext.wrote hB hp hown r5 r6 r7 r8 r9 _
   ·cases hst
theorem aCopy_run {w : World} {h h' : AH} {t tx ty : TypeId} {d d' s s' v : Value} (hs : Sim ρ w h.blk h.next) (hc : aCopy P t d s h = some (v, h')) (hd : VR ρ d d') (hsv : VR ρ s s') :
  ∃ v' w', (Builtin.copy_ #[t, tx] ty #[d', s']).run P w = .ok v' w' ∧ VR ρ v v' ∧ Sim ρ w' h'.blk h'.next ∧ Ext ρ h.blk h.next w ρ h'.blk h'.next w' := by
 unfold aCopy at hc
 split at hc
 ·rename_i e db n c sb m c2 hu
  cases hz : tsize P e with
  | none => rw [hz] at hc; cases hc
  | some z =>
   rw [hz] at hc
   simp only [Option.bind_some] at hc
   obtain ⟨db', c', rfl, hda⟩ : ∃ db' c', d' = .slice db' n c' ∧ (∀ a, db = some a → ∃ a', db' = some a' ∧ (0 < n → AR ρ a a')) := by
    cases hd with
    | sl0 h1 h2 => exact ⟨_, _, rfl, fun a q => by cases q⟩
    | sl h1 h2 h3 h4 => exact ⟨_, _, rfl, fun a q => by cases q; exact ⟨_, rfl, h3⟩⟩
   obtain ⟨sb', c2', rfl, hsa⟩ : ∃ sb' c', s' = .slice sb' m c' ∧ (∀ a, sb = some a → ∃ a', sb' = some a' ∧ (0 < m → AR ρ a a')) := by
    cases hsv with
    | sl0 h1 h2 => exact ⟨_, _, rfl, fun a q => by cases q⟩
    | sl h1 h2 h3 h4 => exact ⟨_, _, rfl, fun a q => by cases q; exact ⟨_, rfl, h3⟩⟩
   split at hc
   ·rename_i h0
    simp at hc
    obtain ⟨rfl, rfl⟩ := hc
    refine ⟨.int .i64 0, w, ?_, .int _ _, hs, Ext.refl _ _ _ _⟩
    have hf : (Builtin.firstCells z (Nat.min m n) (.slice sb' m c2')).run P w = .ok #[] w := by
     rw [h0]
     cases sb' <;> simp [Builtin.firstCells, loadCells, loadCellsFrom]
    rw [h0] at hf
    cases db' <;> simp [Builtin.copy_, run_und hu, Builtin.lenOf, run_size hz, hf, h0, storeCells, goInt]
   ·rename_i h0
    split at hc
    ·rename_i a b
     obtain ⟨a', rfl, ha⟩ := hda a rfl
     obtain ⟨b', rfl, hb⟩ := hsa b rfl
     have hmn : 0 < m ∧ 0 < n := by
      have : Nat.min m n ≠ 0 := h0
      have e : Nat.min m n = min m n := rfl
      omega
     cases hcs : h.cellsAt b (Nat.min m n * z) with
     | none => rw [hcs] at hc; cases hc
     | some cs =>
      rw [hcs] at hc
      simp only [Option.bind_some] at hc
      cases hst : h.store a cs with
      | none => rw [hst] at hc; cases hc
      | some h2 =>
       rw [hst] at hc
       simp at hc
       obtain ⟨rfl, rfl⟩ := hc
       obtain ⟨cs', q1, q2, q3⟩ := cells_run hs hcs (hb hmn.1)
       have hlc := run_loadCells_list (P := P) w b' cs' q3
       rw [← q1.1, q2] at hlc
       obtain ⟨w', r1, r2, r3⟩ := store_run (P := P) hs hst (ha hmn.2) q1
       refine ⟨.int .i64 (Nat.min m n), w', ?_, .int _ _, r2, r3⟩
       have hf : (Builtin.firstCells z (Nat.min m n) (.slice (some b') m c2')).run P w = .ok cs'.toArray w := by
        simpa [Builtin.firstCells] using hlc
       simp [Builtin.copy_, run_und hu, Builtin.lenOf, run_size hz, hf, r1, goInt]
    ·cases hc
 ·cases hc
end
end Go.Proofs.Ytahcngeimlkcgaa.Am
