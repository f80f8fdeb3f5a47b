/- The abstract machine: operations that make rows, convert, append, store. -/
import Derived.Test.YtahcngeimlkcgaaAmG
import Derived.Laws.MakeOwn
import Derived.Lib.ConvBytes
namespace Go.Proofs.Ytahcngeimlkcgaa.Am
open Go
variable [Marks]
set_option linter.unusedVariables false
set_option linter.unusedSectionVars false
set_option linter.unusedSimpArgs false
section
variable {P : Program} {ρ : Rho}
theorem clean_get (ρ : Rho) {z : Value} (h : clean z = true) (i : Nat) : VR ρ (z.cells[i]!) (z.cells[i]!) := by
 have hl := (clean_VR ρ h).cells
 by_cases hi : i < z.cells.size
 ·have e : z.cells[i]! = z.cells[i] := by simp [hi]
  rw [e]
  exact hl.2 i _ _ (by simp [hi]) (by simp [hi])
 ·have e : z.cells[i]! = default := by simp [hi]
  rw [e]
  exact .bool _
theorem zeros_LR (ρ : Rho) {z : Value} (h : clean z = true) (m : Nat) : LR ρ ((Array.range m).map fun i => z.cells[i % z.cells.size]!).toList ((Array.range m).map fun i => z.cells[i % z.cells.size]!).toList :=
 clean_list ρ fun v hv => by
  simp at hv
  obtain ⟨i, _, rfl⟩ := hv
  simpa using clean_get ρ h (i % z.cells.size)
theorem new_AR {ρ' : Rho} {id n sz ext : Nat} (h : ρ' id = some ⟨n, 0, sz, ext⟩) : AR ρ' ⟨id, 0, none⟩ ⟨n, 0, none⟩ := ⟨rfl, _, h, rfl⟩
theorem fresh_run {ev ev' : Operand → Value} {o : Oper} {f : Fresh} (hops : ∀ x ∈ o.op.operands, VR ρ (ev x) (ev' x)) (hf : aFresh P ev o.op = some f) (w : World) :
  ∃ v' C el, (execOp ev' o).run P w = .ok (.value v') (w.alloc (.cells C el)) ∧ LR ρ f.2.1 C.toList ∧ ∀ (ρ' : Rho) (id : Nat), Rle ρ ρ' → ρ' id = some ⟨w.heap.size, 0, f.2.2, C.size⟩ → VR ρ' (f.1 id) v' := by
 cases hop : o.op <;> rw [hop] at hf hops <;> simp only [aFresh] at hf <;> try (cases hf; done)
 case alloc e =>
  unfold aAllocZ at hf
  cases hz : tzero P e with
  | none => rw [hz] at hf; cases hf
  | some z =>
   rw [hz] at hf
   simp only [Option.bind_some] at hf
   split at hf
   ·rename_i hc
    simp at hf; subst hf
    refine ⟨_, z.cells, e, ?_, (clean_VR ρ hc).cells, fun ρ' id hr hi => .ptr (new_AR hi)⟩
    simp [execOp, hop, Instr.alloc, run_zero hz, newVar, newRow]
   ·cases hf
 case box e x =>
  simp [aBox] at hf; subst hf
  have hx := hops x (by simp [Op.operands])
  refine ⟨_, (ev' x).cells, e, ?_, hx.cells, fun ρ' id hr hi => .ptr (new_AR hi)⟩
  simp [execOp, hop, Instr.box, newVar, newRow]
 case buildSlice t len ps =>
  unfold aBuildSlice at hf
  split at hf
  ·rename_i e hu
   cases hs : tsize P e with
   | none => rw [hs] at hf; cases hf
   | some s =>
    rw [hs] at hf
    simp only [Option.bind_some] at hf
    cases hz : tzero P e with
    | none => rw [hz] at hf; cases hf
    | some z =>
     rw [hz] at hf
     simp only [Option.bind_some] at hf
     split at hf
     ·rename_i hc
      obtain ⟨hcl, hlen, hs0⟩ := hc
      cases hfi : Instr.fill (fun i => some (i * s, s)) ((Array.range (len * s)).map fun i => z.cells[i % z.cells.size]!) (ps.toList.map fun p => (p.1, ev p.2)) with
      | none => rw [hfi] at hf; cases hf
      | some B =>
       rw [hfi] at hf; simp at hf; subst hf
       obtain ⟨q1, q2⟩ := parts_LR (ρ := ρ) (ev := ev) (ev' := ev') ps (fun x hx => hops x.2 (by simp [Op.operands]; exact ⟨x.1, hx⟩))
       obtain ⟨B', r1, r2, r3⟩ := fill_run (ρ := ρ) _ _ _ _ _ B hfi q1 q2 (zeros_LR ρ hcl (len * s))
       refine ⟨.slice (some ⟨w.heap.size, 0, none⟩) len len, B', e, ?_, r2, fun ρ' id hr hi => .sl (fun h => h) (Nat.le_refl _) (fun _ => new_AR hi) (fun h => by omega)⟩
       have hps : (ps.map fun x => (x.1, ev' x.2)).toList = ps.toList.map fun p => (p.1, ev' p.2) := by simp
       by_cases h0 : len * s = 0
       ·have r1' : Instr.fill (fun i => some (i * s, s)) #[] (ps.toList.map fun p => (p.1, ev' p.2)) = some B' := by rw [h0] at r1; simpa [Array.range_zero'] using r1
        simp only [execOp, hop, Instr.buildSlice, Sem.run_bind, run_und hu, run_size hs, Result.andThen_ok]
        simp [h0, Array.range_zero', r1', newRow]
       ·have hnl : ¬ 16777216 < len * s := by omega
        simp only [execOp, hop, Instr.buildSlice, Sem.run_bind, run_und hu, run_size hs, Result.andThen_ok]
        simp [h0, hnl, run_zero hz, newRow, r1]
     ·cases hf
  ·cases hf
 case makeSlice t l c =>
  unfold aMakeSlice at hf
  split at hf
  ·rename_i e k n k2 m hu hl hc0
   have hvl := hops l (by simp [Op.operands])
   have hvc := hops c (by simp [Op.operands])
   rw [hl] at hvl
   rw [hc0] at hvc
   generalize hl' : ev' l = l' at hvl
   generalize hc' : ev' c = c' at hvc
   cases hvl; cases hvc
   cases hs : tsize P e with
   | none => rw [hs] at hf; cases hf
   | some s =>
    rw [hs] at hf
    simp only [Option.bind_some] at hf
    cases hb : tbytes P e with
    | none => rw [hb] at hf; cases hf
    | some by_ =>
     rw [hb] at hf
     simp only [Option.bind_some] at hf
     cases hz : tzero P e with
     | none => rw [hz] at hf; cases hf
     | some z =>
      rw [hz] at hf
      simp only [Option.bind_some] at hf
      split at hf
      ·rename_i hc
       obtain ⟨hcl, hs0, hn0, rfl, hby, hsm⟩ := hc
       simp at hf; subst hf
       refine ⟨.slice (some ⟨w.heap.size, 0, none⟩) n.toNat n.toNat, (Array.range (n.toNat * s)).map fun i => z.cells[i % z.cells.size]!, e, ?_, by simpa using zeros_LR ρ hcl (n.toNat * s), fun ρ' id hr hi => .sl (fun h => h) (Nat.le_refl _) (fun _ => new_AR hi) (fun h => by omega)⟩
       obtain ⟨i, hi, hib⟩ : ∃ i, P.info? e = some i ∧ i.bytes = by_ := by
        unfold tbytes at hb
        cases hi : P.info? e with
        | none => rw [hi] at hb; cases hb
        | some i => rw [hi] at hb; exact ⟨i, rfl, by simpa using hb⟩
       have his : i.size = s := by unfold tsize at hs; rw [hi] at hs; simpa using hs
       have hiz : i.zero = some z := by unfold tzero at hz; rw [hi] at hz; simpa using hz
       have := run_make (P := P) w t e i z hu hi hiz k k2 n n hn0 (Int.le_refl _) (by rw [hib]; exact hby) (by omega)
       simp only [execOp, hop, hl', hc', Sem.run_bind, this, Result.andThen_ok, Sem.run_pure, madeCells, his]
      ·cases hf
  ·cases hf
end
end Go.Proofs.Ytahcngeimlkcgaa.Am
