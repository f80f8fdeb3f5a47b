/- Steps with memory. -/
import Derived.Test.YtahcngeimlkcgaaSyB
namespace Go.Proofs.Ytahcngeimlkcgaa.Sy
open Go Am
open Cell (rc)
set_option linter.unusedVariables false
set_option linter.unusedSectionVars false
set_option linter.unusedSimpArgs false
section
variable {P : Program} {R : List COp} {k : Nat} {l l' : KL} {h h' : AH} {K : KL → AH → Prop} {g : Option (Option Nat × Bool)} {d : Option Nat} {op : Op}
variable {h0 : AH} {D : List Nat} {Z0 Z Z' : Zn} {Rv : Nat × Nat} {L L' : List Itm}
def zeroCells (P : Program) (t : TypeId) : Option (List Value) := (tzero P t).bind fun z => if clean z then some z.cells.toList else none
theorem o_alloc {t : TypeId} {cs : List Value} (hz : zeroCells P t = some cs) : FrTo P l (.alloc t) (fun id => .pointer (some ⟨id, 0, none⟩), cs, 0) := by
 refine ⟨rfl, fun e he => ?_⟩
 simp only [aFresh, aAllocZ]
 unfold zeroCells at hz
 cases ht : tzero P t with
 | none => rw [ht] at hz; cases hz
 | some z =>
  rw [ht] at hz
  simp only [Option.bind_some] at hz ⊢
  split at hz
  ·rename_i hc
   simp only [Option.some.injEq] at hz
   subst hz
   rw [if_pos hc]
  ·cases hz
theorem o_box {t : TypeId} {x : Operand} {v : Value} {cs : List Value} (hx : opv l x = some v) (hc : v.cells.toList = cs) : FrTo P l (.box t x) (fun id => .pointer (some ⟨id, 0, none⟩), cs, 0) := by
 subst hc
 exact ⟨rfl, fun e he => by simp only [aFresh, aBox, he.opv hx]⟩
theorem r_blk {cs : List Value} {z : Nat} (ho : R[k]? = some ⟨g, d, op⟩) (hg : gon l g) (hf : FrTo P l op (fun id => .pointer (some ⟨id, 0, none⟩), cs, z)) (hS : St h0 D Z0 Rv Z h L)
  (hk : ∀ b h', St h0 D Z0 Rv Z h' (.blk b cs :: L) → wpR P R (k + 1) (updL l d (.pointer (some ⟨b, 0, none⟩))) h' K) : wpR P R k l h K :=
 r_step ho hg hf.run (hk _ _ (hS.alloc cs z _ ⟨z, by rw [AH.blk_alloc, if_pos rfl]⟩ rfl))
def ldB (P : Program) (t : TypeId) (off : Nat) (cells : List Value) : Option Value :=
 match P.underlying t with
 | some dd => if aggD dd then (match tsize P t with | some m => if off + m ≤ cells.length then some (.agg ((cells.drop off).take m).toArray) else none | none => none) else cells[off]?
 | none => none
theorem aLoad_at {t : TypeId} {a : Addr} {B : ABlk} {v : Value} {off : Nat} {cells : List Value} (hs : a.spot = none) (hb : h.blk a.block = some B) (hv : ldB P t off cells = some v)
  (hc : ∀ i, i < cells.length → B.cells[a.off + i]? = cells[off + i - off + 0]? → True) (hsub : ∀ i, off + i < cells.length → B.cells[a.off + i]? = cells[off + i]?) (hl : a.off + (cells.length - off) ≤ B.cells.length) : aLoad P t (.pointer (some a)) h = some v := by
 unfold ldB at hv
 simp only [aLoad]
 cases hd : P.underlying t with
 | none => rw [hd] at hv; cases hv
 | some dd =>
  rw [hd] at hv
  simp only [Option.bind_some] at hv ⊢
  split at hv
  ·rename_i ha
   rw [if_pos ha]
   cases ht : tsize P t with
   | none => rw [ht] at hv; cases hv
   | some m =>
    rw [ht] at hv
    simp only at hv
    simp only [Option.bind_some]
    split at hv
    ·rename_i hm
     simp only [Option.some.injEq] at hv
     subst hv
     simp only [AH.cellsAt, hs, hb, Option.bind_some]
     rw [if_pos (by omega)]
     simp only [Option.map_some, Option.some.injEq, Value.agg.injEq]
     congr 1
     apply List.ext_getElem?
     intro i
     rw [List.getElem?_take, List.getElem?_take, List.getElem?_drop, List.getElem?_drop]
     split
     ·exact hsub i (by omega)
     ·rfl
    ·cases hv
  ·rename_i ha
   rw [if_neg ha]
   simp only [AH.load, hs, hb, Option.bind_some]
   have hlt : off < cells.length := by
    rcases Nat.lt_or_ge off cells.length with q | q
    ·exact q
    ·rw [List.getElem?_eq_none q] at hv; cases hv
   have := hsub 0 (by omega)
   simp only [Nat.add_zero] at this
   rw [this]; exact hv
theorem o_ldb {t : TypeId} {x : Operand} {b off i : Nat} {cells : List Value} {v : Value} (hS : St h0 D Z0 Rv Z h L) (hi : L[i]? = some (.blk b cells))
  (hx : opv l x = some (.pointer (some ⟨b, off, none⟩))) (hv : ldB P t off cells = some v) : OpTo P l (.load t x) h (v) h := by
 obtain ⟨z, hz⟩ := hS.ok _ (List.mem_of_getElem? hi)
 have hle : off ≤ cells.length := by
  unfold ldB at hv
  split at hv
  ·split at hv
   ·split at hv
    ·split at hv
     ·omega
     ·cases hv
    ·cases hv
   ·rcases Nat.lt_or_ge off cells.length with q | q
    ·omega
    ·rw [List.getElem?_eq_none q] at hv; cases hv
  ·cases hv
 intro e he
 simp only [aOp, he.opv hx]
 rw [aLoad_at (h := h) (a := ⟨b, off, none⟩) (off := off) (cells := cells) rfl hz hv (fun _ _ _ => trivial) (fun i _ => rfl) (by show off + (cells.length - off) ≤ cells.length; omega)]
 rfl
theorem o_ldz {t : TypeId} {x : Operand} {b off : Nat} {cells : List Value} {v : Value} (hS : St h0 D Z0 Rv Z h L) (hi : Z b = some cells)
  (hx : opv l x = some (.pointer (some ⟨b, off, none⟩))) (hv : ldB P t off cells = some v) : OpTo P l (.load t x) h (v) h := by
 obtain ⟨B, hz, hcs⟩ := hS.zin _ _ hi
 have hle : off ≤ cells.length := by
  unfold ldB at hv
  split at hv
  ·split at hv
   ·split at hv
    ·split at hv
     ·omega
     ·cases hv
    ·cases hv
   ·rcases Nat.lt_or_ge off cells.length with q | q
    ·omega
    ·rw [List.getElem?_eq_none q] at hv; cases hv
  ·cases hv
 intro e he
 simp only [aOp, he.opv hx]
 rw [aLoad_at (h := h) (a := ⟨b, off, none⟩) (off := off) (cells := cells) rfl hz hv (fun _ _ _ => trivial) (fun i _ => by rw [hcs]) (by rw [hcs]; show off + (cells.length - off) ≤ cells.length; omega)]
 rfl
theorem put_live (hl : ∀ b, h.blk b ≠ none → b < h.next) {c : Nat} {X : Option ABlk} (hc : h.blk c ≠ none) : ∀ b, (h.put c X).blk b ≠ none → b < (h.put c X).next := by
 intro b hb
 rw [AH.next_put]
 rw [AH.blk_put] at hb
 by_cases e : b = c
 ·subst e; exact hl b hc
 ·rw [if_neg e] at hb; exact hl b hb
theorem St.stb {i b off z : Nat} {cells vs : List Value} (hS : St h0 D Z0 Rv Z h L) (hi : L[i]? = some (.blk b cells)) (hl : off + vs.length ≤ cells.length) (ho : vs.all Value.oneCell' = true) :
  ∃ h', AH.store h ⟨b, off, none⟩ vs = some h' ∧ St h0 D Z0 Rv Z h' (L.set i (.blk b (cells.take off ++ vs ++ cells.drop (off + vs.length)))) := by
 obtain ⟨z, hz⟩ := hS.ok _ (List.mem_of_getElem? hi)
 refine ⟨h.put b (some ⟨cells.take off ++ vs ++ cells.drop (off + vs.length), true, z⟩), ?_, ?_⟩
 ·simp only [AH.store, hz, Option.bind_some]
  rw [if_pos ⟨trivial, hl, ho⟩]
 ·refine hS.step hi _ (fun c hc _ => ?_) ⟨z, by rw [AH.blk_put, if_pos rfl]⟩ (fun c hc => .inl hc) (Nat.le_refl _) (put_live hS.liv (by rw [hz]; simp)) (fun x h1 h2 => ?_)
  ·rw [AH.blk_put, if_neg (by simpa [Itm.ids] using hc)]
  ·rw [AH.low_put]
   have := h2 b (by simp [Itm.ids])
   split <;> omega
def stV (v : Value) : List Value := v.cells.toList
theorem o_stb {t : TypeId} {x y : Operand} {i b off : Nat} {cells vs cells' : List Value} {v : Value} (hS : St h0 D Z0 Rv Z h L) (hi : L[i]? = some (.blk b cells))
  (hx : opv l x = some (.pointer (some ⟨b, off, none⟩))) (hy : opv l y = some v) (hvs : stV v = vs) (ht : tsize P t = some vs.length) (hone : vs.all Value.oneCell' = true) (hl : Nat.ble (off + vs.length) cells.length = true)
  (hc : cells.take off ++ vs ++ cells.drop (off + vs.length) = cells') (hL : L.set i (.blk b cells') = L') :
  ∃ h', OpTo P l (.store t x y) h undef h' ∧ St h0 D Z0 Rv Z h' L' := by
 subst hc hL
 obtain ⟨h', h1, h2⟩ := hS.stb (z := 0) hi (Nat.le_of_ble_eq_true hl) hone
 refine ⟨h', fun e he => ?_, h2⟩
 simp only [aOp, aStore, he.opv hx, he.opv hy, ht, Option.bind_some]
 have hsz : v.cells.size = vs.length := by rw [← hvs]; simp [stV]
 have hvs' : v.cells.toList = vs := hvs
 rw [if_pos hsz, hvs', h1]; rfl
def lenOf : Value → Option Nat
 | .slice _ n _ => some n
 | _ => none
section
variable {α : Type} [Cell α] {xs : List α} {v : Value} {cells : List Value}
theorem RS.len (hR : RS Z v xs) : lenOf v = some xs.length := by obtain ⟨a, c, rfl, _⟩ := hR; rfl
theorem St.glen (hS : St h0 D Z0 Rv Z h L) {i : Nat} (hi : L[i]? = some (.gs v cells (csz α))) (hR : RCs Z cells xs) : lenOf v = some xs.length := by
 have hp := hS.ok _ (List.mem_of_getElem? hi)
 have hlen := hR.length
 have hpos := Cell.pos (α := α)
 rcases hp with ⟨rfl, rfl⟩ | ⟨b, n, c, rfl, h1, _⟩
 ·simp only [lenOf]
  congr 1
  simp only [List.length_nil] at hlen
  rcases Nat.mul_eq_zero.1 hlen.symm with q | q
  ·exact q.symm
  ·have : csz α = Cell.size α := rfl
   omega
 ·simp only [lenOf]
  congr 1
  exact Nat.eq_of_mul_eq_mul_right hpos (by show n * csz α = xs.length * csz α; omega)
def baseOf : Value → Addr
 | .slice (some a) _ _ => a
 | _ => ⟨0, 0, none⟩
def elemA (v : Value) (i : Int) (s j : Nat) : Addr := ⟨(baseOf v).block, (baseOf v).off + i.toNat * s + j, none⟩
def ElAt (h : AH) (v : Value) (i : Int) (s : Nat) (cs : List Value) : Prop :=
 ∃ B, h.blk (baseOf v).block = some B ∧ (baseOf v).off + i.toNat * s + s ≤ B.cells.length ∧ (B.cells.drop ((baseOf v).off + i.toNat * s)).take s = cs
theorem RS.el (hR : RS Z v xs) (hI : Inv Z h) {i : Int} {x : α} (hx : xs[i.toNat]? = some x) : ∃ cs, rc Z cs x ∧ ElAt h v i (csz α) cs := by
 obtain ⟨a, c, rfl, h2, h3⟩ := hR
 have hi : i.toNat < xs.length := by
  rcases Nat.lt_or_ge i.toNat xs.length with q | q
  ·exact q
  ·rw [List.getElem?_eq_none q] at hx; cases hx
 cases a with
 | none => subst h3; simp at hi
 | some a =>
  obtain ⟨h4, all, h5, h6, h7⟩ := h3
  obtain ⟨B, q1, q2⟩ := hI.zin _ _ h5
  obtain ⟨cs, q3, q4⟩ := h7.elem hx
  have hm : i.toNat * csz α + csz α ≤ xs.length * csz α := by
   have := Nat.mul_le_mul_right (csz α) (Nat.succ_le_of_lt hi)
   rw [Nat.succ_mul] at this; exact this
  refine ⟨cs, q3, B, q1, by rw [q2]; show a.off + _ + _ ≤ _; omega, ?_⟩
  rw [q2, ← q4]
  show List.take _ (List.drop (a.off + _) all) = _
  rw [List.drop_take, List.drop_drop, List.take_take, Nat.min_eq_left (by omega)]
theorem St.gel (hS : St h0 D Z0 Rv Z h L) {j : Nat} (hi : L[j]? = some (.gs v cells (csz α))) (hR : RCs Z cells xs) {i : Int} {x : α} (hx : xs[i.toNat]? = some x) : ∃ cs, rc Z cs x ∧ ElAt h v i (csz α) cs ∧ (cells.drop (i.toNat * csz α)).take (csz α) = cs := by
 have hp := hS.ok _ (List.mem_of_getElem? hi)
 have hlen := hR.length
 have hi : i.toNat < xs.length := by
  rcases Nat.lt_or_ge i.toNat xs.length with q | q
  ·exact q
  ·rw [List.getElem?_eq_none q] at hx; cases hx
 have hm : i.toNat * csz α + csz α ≤ xs.length * csz α := by
  have := Nat.mul_le_mul_right (csz α) (Nat.succ_le_of_lt hi)
  rw [Nat.succ_mul] at this; exact this
 obtain ⟨cs, q3, q4⟩ := hR.elem hx
 have hpos := Cell.pos (α := α)
 rcases hp with ⟨rfl, rfl⟩ | ⟨b, n, c, rfl, h1, h2, h3⟩
 ·simp only [List.length_nil] at hlen
  have : csz α = Cell.size α := rfl
  omega
 ·exact ⟨cs, q3, ⟨_, h3, by show 0 + _ + _ ≤ _; simp only [Nat.zero_add]; omega, by show List.take _ (List.drop (0 + _) cells) = cs; rw [Nat.zero_add]; exact q4⟩, q4⟩
def Based (v : Value) (n : Nat) : Prop := ∃ a c, v = .slice (some a) n c ∧ a.spot = none
theorem RS.based (hR : RS Z v xs) (hn : 0 < xs.length) : Based v xs.length := by
 obtain ⟨a, c, rfl, h2, h3⟩ := hR
 cases a with
 | none => subst h3; simp at hn
 | some a => exact ⟨a, c, rfl, h3.1⟩
theorem St.gbased (hS : St h0 D Z0 Rv Z h L) {j : Nat} (hi : L[j]? = some (.gs v cells (csz α))) (hR : RCs Z cells xs) (hn : 0 < xs.length) : Based v xs.length := by
 have hl := hS.glen hi hR
 rcases hS.ok _ (List.mem_of_getElem? hi) with ⟨rfl, rfl⟩ | ⟨b, n, c, rfl, h1, _⟩
 ·simp only [lenOf, Option.some.injEq] at hl; omega
 ·simp only [lenOf, Option.some.injEq] at hl; subst hl; exact ⟨_, _, rfl, rfl⟩
end
theorem o_len {t : TypeId} {x : Operand} {v : Value} {n : Nat} (hx : opv l x = some v) (hn : lenOf v = some n) (ht : ∃ e, P.underlying t = some (.slice e)) : OpTo P l (.call ⟨.builtin .len, #[x], #[t]⟩) h (.int .i64 n) h := by
 intro e he
 obtain ⟨u, hu⟩ := ht
 cases v with
 | slice a m c =>
  simp only [lenOf, Option.some.injEq] at hn
  subst hn
  simp only [aOp, List.map_cons, List.map_nil, he.opv hx, aBuiltin, aLen, hu, Option.map_some]
 | _ => cases hn
def slTy (P : Program) (t : TypeId) : Option Nat := match P.underlying t with | some (.slice e) => tsize P e | _ => none
theorem o_index {t : TypeId} {x y : Operand} {v : Value} {n s : Nat} {i : Int} {kd : IntKind} (hx : opv l x = some v) (hy : opv l y = some (.int kd i)) (ht : slTy P t = some s) (hb : Based v n) (h1 : 0 ≤ i) (h2 : i < n) : OpTo P l (.indexAddr t x y) h (.pointer (some (elemA v i s 0))) h := by
 intro e he
 obtain ⟨a, c, rfl, hsp⟩ := hb
 unfold slTy at ht
 cases hu : P.underlying t with
 | none => rw [hu] at ht; cases ht
 | some dd =>
  rw [hu] at ht
  cases dd with
  | slice u =>
   simp only at ht
   simp only [aOp, he.opv hx, he.opv hy, aIndexAddr, hu, ht, Option.bind_some]
   rw [if_pos ⟨h1, h2, hsp⟩]
   simp only [Option.map_some, Option.some.injEq, Prod.mk.injEq, Value.pointer.injEq, and_true]
   cases a
   simp only at hsp
   subst hsp
   simp [Addr.add, elemA, baseOf]
  | _ => cases ht
theorem ldE_aux {v : Value} {i : Int} {s j : Nat} {cs : List Value} {B : ABlk} (h2 : (baseOf v).off + i.toNat * s + s ≤ B.cells.length) (h3 : (B.cells.drop ((baseOf v).off + i.toNat * s)).take s = cs) : cs.length = s ∧ ∀ m, j + m < cs.length → B.cells[(elemA v i s j).off + m]? = cs[j + m]? := by
 have hl : cs.length = s := by rw [← h3]; simp; omega
 refine ⟨hl, fun m hm => ?_⟩
 rw [← h3, List.getElem?_take, if_pos (by omega), List.getElem?_drop]
 congr 1
 show (baseOf v).off + i.toNat * s + j + m = _
 omega
theorem o_lde {t : TypeId} {x : Operand} {v w : Value} {i : Int} {s j : Nat} {cs : List Value} (hE : ElAt h v i s cs) (hx : opv l x = some (.pointer (some (elemA v i s j)))) (hv : ldB P t j cs = some w) : OpTo P l (.load t x) h (w) h := by
 obtain ⟨B, h1, h2, h3⟩ := hE
 obtain ⟨hl, hsub⟩ := ldE_aux (j := j) h2 h3
 have hle : j ≤ cs.length := by
  unfold ldB at hv
  split at hv
  ·split at hv
   ·split at hv
    ·split at hv
     ·omega
     ·cases hv
    ·cases hv
   ·rcases Nat.lt_or_ge j cs.length with q | q
    ·omega
    ·rw [List.getElem?_eq_none q] at hv; cases hv
  ·cases hv
 intro e he
 simp only [aOp, he.opv hx]
 rw [aLoad_at (h := h) (a := elemA v i s j) (off := j) (cells := cs) rfl h1 hv (fun _ _ _ => trivial) hsub (by show (baseOf v).off + i.toNat * s + j + (cs.length - j) ≤ B.cells.length; omega)]
 rfl
theorem o_ste {α : Type} [Cell α] {t : TypeId} {x y : Operand} {v w : Value} {i : Int} {j m : Nat} {cells cs cs' vs : List Value} {xs : List α} {u u' : α} (hS : St h0 D Z0 Rv Z h L) (hi : L[m]? = some (.gs v cells (csz α))) (hR : RCs Z cells xs)
  (hu : xs[i.toNat]? = some u) (hcs : (cells.drop (i.toNat * csz α)).take (csz α) = cs)
  (hx : opv l x = some (.pointer (some (elemA v i (csz α) j)))) (hy : opv l y = some w) (hvs : stV w = vs) (ht : tsize P t = some vs.length) (hone : vs.all Value.oneCell' = true) (hl : Nat.ble (j + vs.length) cs.length = true)
  (hc : cs.take j ++ vs ++ cs.drop (j + vs.length) = cs') (hu' : rc Z cs' u') :
  ∃ h' cells', OpTo P l (.store t x y) h undef h' ∧ RCs Z cells' (xs.set i.toNat u') ∧ St h0 D Z0 Rv Z h' (L.set m (.gs v cells' (csz α))) := by
 have hlen := hR.length
 have hil : i.toNat < xs.length := by
  rcases Nat.lt_or_ge i.toNat xs.length with q | q
  ·exact q
  ·rw [List.getElem?_eq_none q] at hu; cases hu
 have hm : i.toNat * csz α + csz α ≤ xs.length * csz α := by
  have := Nat.mul_le_mul_right (csz α) (Nat.succ_le_of_lt hil)
  rw [Nat.succ_mul] at this; exact this
 have hl := Nat.le_of_ble_eq_true hl
 have hcl : cs.length = csz α := by rw [← hcs]; simp; omega
 have hpos : 0 < csz α := Cell.pos (α := α)
 have hp := hS.ok _ (List.mem_of_getElem? hi)
 rcases hp with ⟨rfl, rfl⟩ | ⟨b, n, c, rfl, h1, h2, h3⟩
 ·simp only [List.length_nil] at hlen; omega
 ·have hR' := hR.upd hu hu'
  have heq : cells.take (i.toNat * csz α + j) ++ vs ++ cells.drop (i.toNat * csz α + j + vs.length) = cells.take (i.toNat * csz α) ++ cs' ++ cells.drop (i.toNat * csz α + csz α) := by
   rw [← hc, ← hcs]
   apply List.ext_getElem?
   intro q
   simp only [List.getElem?_append, List.length_append, List.length_take, List.length_drop, List.getElem?_take, List.getElem?_drop, hcl]
   have e1 : min (i.toNat * csz α + j) cells.length = i.toNat * csz α + j := by omega
   have e2 : min (i.toNat * csz α) cells.length = i.toNat * csz α := by omega
   have e3 : min (csz α) (cells.length - i.toNat * csz α) = csz α := by omega
   have e4 : min j (csz α) = j := by omega
   rw [e1, e2, e3, e4]
   by_cases q1 : q < i.toNat * csz α
   ·rw [if_pos (by omega), if_pos (by omega), if_pos (by omega), if_pos (by omega), if_pos (by omega)]
    rw [if_pos q1]
   ·by_cases q2 : q < i.toNat * csz α + j
    ·rw [if_pos (by omega), if_pos (by omega), if_pos (by omega), if_pos (by omega), if_neg (by omega), if_pos (by omega), if_pos (by omega), if_pos (by omega), if_pos (by omega)]
     congr 1; omega
    ·by_cases q3 : q < i.toNat * csz α + j + vs.length
     ·rw [if_pos (by omega), if_neg (by omega), if_pos (by omega), if_neg (by omega), if_pos (by omega), if_neg (by omega)]
      congr 1; omega
     ·by_cases q4 : q < i.toNat * csz α + csz α
      ·rw [if_neg (by omega), if_pos (by omega), if_neg (by omega), if_neg (by omega), if_pos (by omega)]
       congr 1; omega
      ·rw [if_neg (by omega), if_neg (by omega)]
       congr 1; omega
  have hvl : i.toNat * csz α + j + vs.length ≤ cells.length := by omega
  have hst : AH.store h (elemA (.slice (some ⟨b, 0, none⟩) n c) i (csz α) j) vs = some (h.put b (some ⟨cells.take (i.toNat * csz α) ++ cs' ++ cells.drop (i.toNat * csz α + csz α), true, csz α⟩)) := by
   rw [← heq]
   simp only [AH.store, elemA, baseOf, h3, Option.bind_some, Nat.zero_add]
   rw [if_pos ⟨trivial, hvl, hone⟩]
  refine ⟨h.put b (some ⟨cells.take (i.toNat * csz α) ++ cs' ++ cells.drop (i.toNat * csz α + csz α), true, csz α⟩), _, fun e he => ?_, hR', ?_⟩
  ·simp only [aOp, aStore, he.opv hx, he.opv hy, ht, Option.bind_some]
   have hsz : w.cells.size = vs.length := by rw [← hvs]; simp [stV]
   have hvs' : w.cells.toList = vs := hvs
   rw [if_pos hsz, hvs', hst]; rfl
  ·refine hS.step hi _ (fun q hq _ => ?_) (.inr ⟨b, n, c, rfl, ?_, h2, by rw [AH.blk_put, if_pos rfl]⟩) (fun q hq => .inl hq) (Nat.le_refl _) (put_live hS.liv (by rw [h3]; simp)) (fun x q1 q2 => ?_)
   ·rw [AH.blk_put, if_neg (by simpa [Itm.ids] using hq)]
   ·have := hR'.length
    rw [List.length_set] at this
    omega
   ·rw [AH.low_put]
    have := q2 b (by simp [Itm.ids])
    split <;> omega
end
end Go.Proofs.Ytahcngeimlkcgaa.Sy
