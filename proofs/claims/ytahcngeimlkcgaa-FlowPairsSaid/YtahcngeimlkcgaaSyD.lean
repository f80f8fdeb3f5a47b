/- Steps with memory: new rows, appends, slices, texts, calls; functions. -/
import Derived.Test.YtahcngeimlkcgaaSyC
namespace Go.Proofs.Ytahcngeimlkcgaa.Sy
open Go Am
open Cell (rc)
set_option linter.unusedVariables false
set_option linter.unusedSectionVars false
set_option linter.unusedSimpArgs false
section
variable {P : Program} {R : List COp} {k : Nat} {l l' : KL} {h h' : AH} {K : KL → AH → Prop} {g : Option (Option Nat × Bool)} {d : Option Nat} {op : Op}
variable {h0 : AH} {D : List Nat} {Z0 Z Z' : Zn} {Rv : Nat × Nat} {L L' : List Itm}
def bsV (P : Program) (l : KL) (t : TypeId) (n : Nat) (ps : Array (Nat × Operand)) : Option (List Value × Nat) :=
 match opvs l (ps.toList.map (·.2)) with
 | some vs => (aBuildSlice P t n ((ps.toList.map (·.1)).zip vs)).map (·.2)
 | none => none
theorem bs_val {t : TypeId} {n : Nat} {ps : List (Nat × Value)} {f : Fresh} (hf : aBuildSlice P t n ps = some f) : f.1 = fun id => .slice (some ⟨id, 0, none⟩) n n := by
 unfold aBuildSlice at hf
 split at hf
 ·cases h1 : tsize P _ with
  | none => rw [h1] at hf; cases hf
  | some s =>
   rw [h1] at hf
   cases h2 : tzero P _ with
   | none => rw [h2] at hf; cases hf
   | some z =>
    rw [h2] at hf
    simp only [Option.bind_some] at hf
    split at hf
    ·obtain ⟨c, _, rfl⟩ := Option.map_eq_some_iff.1 hf
     rfl
    ·cases hf
 ·cases hf
theorem St.allocGs (hS : St h0 D Z0 Rv Z h L) {n c s : Nat} {cells : List Value} (hc : c = n ∨ c = n + 1) (hn : n * s = cells.length) :
  St h0 D Z0 Rv Z (h.alloc cells s) (.gs (.slice (some ⟨h.next, 0, none⟩) n c) cells s :: L) :=
 hS.alloc cells s _ (.inr ⟨h.next, n, c, rfl, hn, hc, by rw [AH.blk_alloc, if_pos rfl]⟩) rfl
theorem o_bs {t : TypeId} {n s : Nat} {ps : Array (Nat × Operand)} {cells : List Value} (hb : bsV P l t n ps = some (cells, s)) : FrTo P l (.buildSlice t n ps) (fun id => .slice (some ⟨id, 0, none⟩) n n, cells, s) := by
 unfold bsV at hb
 cases hv : opvs l (ps.toList.map (·.2)) with
 | none => rw [hv] at hb; cases hb
 | some vs =>
  rw [hv] at hb
  simp only at hb
  obtain ⟨f, h1, h2⟩ := Option.map_eq_some_iff.1 hb
  have hf := bs_val h1
  refine ⟨rfl, fun e he => ?_⟩
  have h3 := opvs_ok he _ hv
  have : (ps.toList.map fun p => (p.1, e.ev p.2)) = (ps.toList.map (·.1)).zip vs := by
   rw [← h3, List.map_map, List.zip_map']; rfl
  simp only [aFresh]
  rw [this, h1, ← hf, ← h2]
theorem r_row {cells : List Value} {n s : Nat} (ho : R[k]? = some ⟨g, d, op⟩) (hg : gon l g) (hf : FrTo P l op (fun id => .slice (some ⟨id, 0, none⟩) n n, cells, s)) (hn : n * s = cells.length) (hS : St h0 D Z0 Rv Z h L)
  (hk : ∀ v h', St h0 D Z0 Rv Z h' (.gs v cells s :: L) → wpR P R (k + 1) (updL l d v) h' K) : wpR P R k l h K :=
 r_step ho hg hf.run (hk _ _ (hS.allocGs (.inl rfl) hn))
def msTy (P : Program) (t : TypeId) : Option (Nat × Nat × List Value) :=
 match P.underlying t with
 | some (.slice e) => (match tsize P e, tbytes P e, tzero P e with
  | some s, some b, some z => if clean z = true ∧ 0 < s ∧ z.cells.toList.length = s then some (s, b, z.cells.toList) else none
  | _, _, _ => none)
 | _ => none
theorem RCs_replicate {α : Type} [Cell α] {zc : List Value} {x0 : α} (hz : rc Z zc x0) : ∀ (n : Nat), RCs Z ((List.range (n * csz α)).map fun i => zc[i % zc.length]!) (List.replicate n x0) := by
 have hl : zc.length = csz α := Cell.len hz
 have hpos : 0 < csz α := Cell.pos (α := α)
 intro n
 induction n with
 | zero => simp [RCs]
 | succ n ih =>
  have e1 : (List.range ((n + 1) * csz α)).map (fun i => zc[i % zc.length]!) = (List.range (n * csz α)).map (fun i => zc[i % zc.length]!) ++ zc := by
   rw [Nat.succ_mul, List.range_add, List.map_append, List.map_map]
   congr 1
   apply List.ext_getElem?
   intro i
   rw [List.getElem?_map]
   rcases Nat.lt_or_ge i (csz α) with q | q
   ·rw [List.getElem?_range q]
    simp only [Option.map_some, Function.comp]
    have : (n * csz α + i) % zc.length = i := by rw [hl, Nat.mul_comm, Nat.mul_add_mod, Nat.mod_eq_of_lt q]
    rw [this, getElem!_pos zc i (by omega), List.getElem?_eq_getElem (by omega)]
   ·rw [List.getElem?_eq_none (by simpa using q), List.getElem?_eq_none (by omega)]; rfl
  rw [e1, List.replicate_succ']
  exact ih.append (RCs.single hz)
theorem o_ms {α : Type} [Cell α] {t : TypeId} {a b : Operand} {ka kb : IntKind} {n : Int} {by_ : Nat} {zc : List Value} {x0 : α} (ha : opv l a = some (.int ka n)) (hb : opv l b = some (.int kb n)) (ht : msTy P t = some (csz α, by_, zc))
  (hz : rc Z zc x0) (h1 : 0 ≤ n) (h2 : n * by_ ≤ 281474976710656) (h3 : n ≤ 4611686018427387904) :
  ∃ cells, FrTo P l (.makeSlice t a b) (fun id => .slice (some ⟨id, 0, none⟩) n.toNat n.toNat, cells, csz α) ∧ RCs Z cells (List.replicate n.toNat x0) ∧ n.toNat * csz α = cells.length := by
 have hR := RCs_replicate (Z := Z) hz n.toNat
 have hlen := hR.length
 rw [List.length_replicate] at hlen
 refine ⟨_, ⟨rfl, fun e he => ?_⟩, hR, hlen.symm⟩
 unfold msTy at ht
 split at ht
 ·rename_i u hu
  split at ht
  ·rename_i s bb z q1 q2 q3
   split at ht
   ·rename_i hc
    simp only [Option.some.injEq, Prod.mk.injEq] at ht
    obtain ⟨rfl, rfl, rfl⟩ := ht
    obtain ⟨c1, c2, c3⟩ := hc
    simp only [aFresh, he.opv ha, he.opv hb, aMakeSlice, hu, q1, q2, q3, Option.bind_some]
    rw [if_pos ⟨c1, c2, h1, trivial, by rw [Int.mul_comm]; simpa using h2, h3⟩]
    simp only [Option.some.injEq, Prod.mk.injEq, true_and, and_true]
    rw [Array.toList_map, Array.toList_range]
    apply List.map_congr_left
    intro i _
    have hpos : 0 < csz α := Cell.pos (α := α)
    have hsz : z.cells.size = csz α := by simpa using c3
    simp only [c3, hsz]
    have hm : i % csz α < csz α := Nat.mod_lt _ hpos
    rw [getElem!_pos z.cells (i % csz α) (by omega), getElem!_pos z.cells.toList (i % csz α) (by omega)]
    simp
   ·cases ht
  ·cases ht
 ·cases ht
def appTy (P : Program) (t tx : TypeId) : Option (Nat × Nat) :=
 match P.underlying t, P.underlying tx with
 | some (.slice e), some dx => (match tsize P e, tbytes P e, tzero P e with
  | some s, some b, some z => if appKind dx = true ∧ clean z = true ∧ 0 < s ∧ z.cells.size = s then some (s, b) else none
  | _, _, _ => none)
 | _, _ => none
theorem app_eq {t tx : TypeId} {s by_ : Nat} (ht : appTy P t tx = some (s, by_)) {base : Option Addr} {n c : Nat} {x : Value} {m : Nat} {news : List Value} (hx : aNews s x h = some (m, news)) (hb : (n + m) * by_ ≤ 140737488355328) (hm : n + m ≤ 4611686018427387904) (ho : news.all Value.oneCell' = true) :
  aAppend P t tx (.slice base n c) x h = (if m = 0 then some (.slice base n c, h) else
   match base with
   | none => if n = 0 ∧ c = 0 then some (.slice (some ⟨h.next, 0, none⟩) m (m + 1), h.alloc news s) else none
   | some a =>
    if c = n then (h.cellsAt a (n * s)).bind fun old => some (.slice (some ⟨h.next, 0, none⟩) (n + m) (n + m + 1), h.alloc (old ++ news) s)
    else if c = n + 1 ∧ a.spot = none then (h.blk a.block).bind fun B =>
     if B.own = true ∧ B.esz = s ∧ a.off + n * s = B.cells.length then
      some (.slice (some ⟨h.next, 0, none⟩) (n + m) (n + m + 1), (h.put a.block none).alloc (B.cells.drop a.off ++ news) s)
     else none
    else none) := by
 unfold appTy at ht
 split at ht
 ·rename_i e dx h1 h2
  split at ht
  ·rename_i s' b z q1 q2 q3
   split at ht
   ·rename_i hc
    simp only [Option.some.injEq, Prod.mk.injEq] at ht
    obtain ⟨rfl, rfl⟩ := ht
    obtain ⟨c1, c2, c3, c4⟩ := hc
    simp only [aAppend, h1, h2, if_pos c1, q1, q2, q3, Option.bind_some, hx]
    rw [if_pos ⟨c2, c3, c4, hb, hm, ho⟩]
    rfl
   ·cases ht
  ·cases ht
 ·cases ht
theorem live_alloc (hl : ∀ b, h.blk b ≠ none → b < h.next) (cs : List Value) (z : Nat) : ∀ b, (h.alloc cs z).blk b ≠ none → b < (h.alloc cs z).next := by
 intro b hb
 rw [AH.blk_alloc] at hb
 rw [AH.next_alloc]
 by_cases e : b = h.next
 ·omega
 ·rw [if_neg e] at hb; have := hl b hb; omega
theorem St.append {α : Type} [Cell α] {t tx : TypeId} {by_ i : Nat} {v x : Value} {cells news : List Value} {xs ys : List α} (hS : St h0 D Z0 Rv Z h L) (hi : L[i]? = some (.gs v cells (csz α))) (hR : RCs Z cells xs) (hY : RCs Z news ys)
  (ht : appTy P t tx = some (csz α, by_)) (hx : aNews (csz α) x h = some (ys.length, news)) (hb : (xs.length + ys.length) * by_ ≤ 140737488355328) (hm : xs.length + ys.length ≤ 4611686018427387904) :
  ∃ v' cells' h', aAppend P t tx v x h = some (v', h') ∧ RCs Z cells' (xs ++ ys) ∧ St h0 D Z0 Rv Z h' (L.set i (.gs v' cells' (csz α))) := by
 have hl := hS.glen hi hR
 have hp := hS.ok _ (List.mem_of_getElem? hi)
 have hlen := hR.length
 have hRY := hR.append hY
 have hlen2 := hRY.length
 rw [List.length_append, List.length_append] at hlen2
 by_cases h0m : ys.length = 0
 ·have hys : ys = [] := List.eq_nil_of_length_eq_zero h0m
  subst hys
  have hset : L.set i (.gs v cells (csz α)) = L := by
   obtain ⟨q1, q2⟩ := List.getElem?_eq_some_iff.1 hi
   rw [← q2]; exact List.set_getElem_self q1
  refine ⟨v, cells, h, ?_, by simpa using hR, by rw [hset]; exact hS⟩
  cases v with
  | slice base n c =>
   simp only [lenOf, Option.some.injEq] at hl
   subst hl
   rw [app_eq ht hx hb hm hY.one, if_pos h0m]
  | _ => cases hl
 ·rcases hp with ⟨rfl, rfl⟩ | ⟨b, n, c, rfl, h1, h2, h3⟩
  ·simp only [lenOf, Option.some.injEq] at hl
   have hxs : xs = [] := List.eq_nil_of_length_eq_zero hl.symm
   subst hxs
   refine ⟨_, news, h.alloc news (csz α), by rw [show (Value.slice none 0 0) = .slice none ([] : List α).length 0 from rfl, app_eq ht hx hb hm hY.one, if_neg h0m]; rfl, hY, ?_⟩
   refine hS.step hi _ (fun q hq hlt => by rw [AH.blk_alloc, if_neg (by omega)]) (.inr ⟨h.next, _, _, rfl, by have := hY.length; omega, .inr rfl, by rw [AH.blk_alloc, if_pos rfl]⟩) (fun q hq => ?_) (Nat.le_succ _) (live_alloc hS.liv _ _) (fun x q1 _ => q1)
   simp only [Itm.ids, List.mem_singleton] at hq
   exact .inr (by omega)
  ·simp only [lenOf, Option.some.injEq] at hl
   subst hl
   have hbl : b < h.next := hS.liv b (by rw [h3]; simp)
   have hal : (xs.length + ys.length) * csz α = (cells ++ news).length := by rw [List.length_append, hlen2]
   by_cases hc : c = xs.length
   ·refine ⟨.slice (some ⟨h.next, 0, none⟩) (xs.length + ys.length) (xs.length + ys.length + 1), cells ++ news, h.alloc (cells ++ news) (csz α), ?_, hRY, ?_⟩
    ·rw [app_eq ht hx hb hm hY.one, if_neg h0m]
     simp only [if_pos hc]
     have hca : h.cellsAt ⟨b, 0, none⟩ (xs.length * csz α) = some cells := by
      simp only [AH.cellsAt, h3, Option.bind_some]
      rw [if_pos (by omega), List.drop_zero, List.take_of_length_le (by omega)]
     rw [hca]; rfl
    ·refine hS.step hi _ (fun q hq hlt => by rw [AH.blk_alloc, if_neg (by omega)]) (.inr ⟨h.next, _, _, rfl, hal, .inr rfl, by rw [AH.blk_alloc, if_pos rfl]⟩) (fun q hq => ?_) (Nat.le_succ _) (live_alloc hS.liv _ _) (fun x q1 _ => q1)
     simp only [Itm.ids, List.mem_singleton] at hq
     exact .inr (by omega)
   ·have hc1 : c = xs.length + 1 := by omega
    refine ⟨.slice (some ⟨h.next, 0, none⟩) (xs.length + ys.length) (xs.length + ys.length + 1), cells ++ news, (h.put b none).alloc (cells ++ news) (csz α), ?_, hRY, ?_⟩
    ·rw [app_eq ht hx hb hm hY.one, if_neg h0m]
     simp only [if_neg hc]
     rw [if_pos ⟨hc1, trivial⟩, h3]
     simp only [Option.bind_some]
     rw [if_pos ⟨trivial, trivial, by omega⟩, List.drop_zero]
    ·refine hS.step hi _ (fun q hq hlt => ?_) (.inr ⟨h.next, _, _, rfl, hal, .inr rfl, by rw [AH.blk_alloc, AH.next_put, if_pos rfl]⟩) (fun q hq => ?_) (Nat.le_succ _) (live_alloc (put_live hS.liv (by rw [h3]; simp)) _ _) (fun x q1 q2 => ?_)
     ·rw [AH.blk_alloc, AH.next_put, if_neg (by omega), AH.blk_put, if_neg (by simpa [Itm.ids] using hq)]
     ·simp only [Itm.ids, List.mem_singleton] at hq
      exact .inr (by omega)
     ·rw [AH.low_alloc, AH.low_put]
      have := q2 b (by simp [Itm.ids])
      split <;> omega
theorem o_app {α : Type} [Cell α] {t tx : TypeId} {a b : Operand} {by_ i : Nat} {v x : Value} {cells news : List Value} {xs ys : List α} (hS : St h0 D Z0 Rv Z h L) (hi : L[i]? = some (.gs v cells (csz α))) (hR : RCs Z cells xs)
  (hN : aNews (csz α) x h = some (ys.length, news) ∧ RCs Z news ys) (ha : opv l a = some v) (hb : opv l b = some x) (ht : appTy P t tx = some (csz α, by_)) (hlim : (xs.length + ys.length) * by_ ≤ 140737488355328) (hm : xs.length + ys.length ≤ 4611686018427387904) :
  ∃ v' cells' h', OpTo P l (.call ⟨.builtin .append, #[a, b], #[t, tx]⟩) h v' h' ∧ RCs Z cells' (xs ++ ys) ∧ St h0 D Z0 Rv Z h' (L.set i (.gs v' cells' (csz α))) := by
 obtain ⟨v', cells', h', h1, h2, h3⟩ := hS.append hi hR hN.2 ht hN.1 hlim hm
 refine ⟨v', cells', h', fun e he => ?_, h2, h3⟩
 simp only [aOp, List.map_cons, List.map_nil, he.opv ha, he.opv hb, aBuiltin, h1]
def CapEq (v : Value) : Prop := ∃ a n, v = .slice a n n
theorem o_appCopy {α : Type} [Cell α] {t tx : TypeId} {a b : Operand} {by_ : Nat} {v x : Value} {news : List Value} {xs ys : List α} (hS : St h0 D Z0 Rv Z h L) (hR : RS Z v xs) (hC : CapEq v)
  (hN : aNews (csz α) x h = some (ys.length, news) ∧ RCs Z news ys) (hpos : 0 < ys.length) (ha : opv l a = some v) (hb : opv l b = some x) (ht : appTy P t tx = some (csz α, by_)) (hlim : (xs.length + ys.length) * by_ ≤ 140737488355328) (hm : xs.length + ys.length ≤ 4611686018427387904) :
  ∃ v' cells' h', OpTo P l (.call ⟨.builtin .append, #[a, b], #[t, tx]⟩) h v' h' ∧ RCs Z cells' (xs ++ ys) ∧ St h0 D Z0 Rv Z h' (.gs v' cells' (csz α) :: L) ∧ h'.low = h.low := by
 obtain ⟨ao, c, rfl, h2, h3⟩ := hR
 obtain ⟨ao', n', he⟩ := hC
 injection he with e1 e2 e3
 subst e2 e3
 obtain ⟨hN1, hN2⟩ := hN
 have h0m : ys.length ≠ 0 := by omega
 cases ao with
 | none =>
  subst h3
  refine ⟨.slice (some ⟨h.next, 0, none⟩) ys.length (ys.length + 1), news, h.alloc news (csz α), fun e he => ?_, hN2, hS.allocGs (.inr rfl) (by rw [hN2.length]), rfl⟩
  simp only [aOp, List.map_cons, List.map_nil, he.opv ha, he.opv hb, aBuiltin]
  rw [app_eq ht hN1 hlim hm hN2.one, if_neg h0m]; rfl
 | some ad =>
  obtain ⟨h4, all, h5, h6, h7⟩ := h3
  obtain ⟨B, q1, q2⟩ := hS.zin _ _ h5
  have hRY := h7.append hN2
  have hl := hRY.length
  rw [List.length_append] at hl
  refine ⟨.slice (some ⟨h.next, 0, none⟩) (xs.length + ys.length) (xs.length + ys.length + 1), _, h.alloc (((all.drop ad.off).take (xs.length * csz α)) ++ news) (csz α), fun e he => ?_, hRY, hS.allocGs (.inr rfl) (by rw [List.length_append, hl, List.length_append]), rfl⟩
  simp only [aOp, List.map_cons, List.map_nil, he.opv ha, he.opv hb, aBuiltin]
  rw [app_eq ht hN1 hlim hm hN2.one, if_neg h0m]
  simp only [if_pos]
  have hca : h.cellsAt ad (xs.length * csz α) = some ((all.drop ad.off).take (xs.length * csz α)) := by
   simp only [AH.cellsAt, h4, q1, Option.bind_some]
   rw [q2, if_pos (by omega)]
  rw [hca]; rfl
theorem RS.news {α : Type} [Cell α] {v : Value} {xs : List α} (hR : RS Z v xs) (hI : Inv Z h) : ∃ news, aNews (csz α) v h = some (xs.length, news) ∧ RCs Z news xs := by
 obtain ⟨a, c, rfl, h2, h3⟩ := hR
 cases a with
 | none =>
  subst h3
  exact ⟨[], rfl, rfl⟩
 | some a =>
  obtain ⟨h4, all, h5, h6, h7⟩ := h3
  obtain ⟨B, q1, q2⟩ := hI.zin _ _ h5
  refine ⟨_, ?_, h7⟩
  simp only [aNews, AH.cellsAt, h4, q1, Option.bind_some]
  rw [q2, if_pos (by omega)]; rfl
theorem St.gnews {α : Type} [Cell α] {v : Value} {cells : List Value} {xs : List α} {j : Nat} (hS : St h0 D Z0 Rv Z h L) (hi : L[j]? = some (.gs v cells (csz α))) (hR : RCs Z cells xs) : aNews (csz α) v h = some (xs.length, cells) ∧ RCs Z cells xs := by
 have hl := hS.glen hi hR
 have hlen := hR.length
 refine ⟨?_, hR⟩
 rcases hS.ok _ (List.mem_of_getElem? hi) with ⟨rfl, rfl⟩ | ⟨b, n, c, rfl, h1, h2, h3⟩
 ·simp only [lenOf, Option.some.injEq] at hl
  rw [← hl]; rfl
 ·simp only [lenOf, Option.some.injEq] at hl
  subst hl
  simp only [aNews, AH.cellsAt, h3, Option.bind_some]
  rw [if_pos (by omega), List.drop_zero, List.take_of_length_le (by omega)]; rfl
def loIs (l : KL) (x : Option Operand) (a : Int) : Prop := match x with | none => a = 0 | some y => ∃ kd, opv l y = some (.int kd a)
def hiIs (l : KL) (x : Option Operand) (a : Int) (n : Nat) : Prop := match x with | none => a = n | some y => ∃ kd, opv l y = some (.int kd a)
theorem bounds_eq {e : Env} (he : EnvIs e l) {lo hi : Option Operand} {a b : Int} {n : Nat} (hlo : loIs l lo a) (hhi : hiIs l hi b n) (h1 : 0 ≤ a) (h2 : a ≤ b) (h3 : b ≤ n) : aBounds n (lo.map e.ev) (hi.map e.ev) none = some (a.toNat, b.toNat, none) := by
 have low : ∀ m : Nat, (m : Int) = b → aLow m none (lo.map e.ev) = some (a.toNat, m, none) := by
  intro m hm
  cases lo with
  | none => simp only [loIs] at hlo; subst hlo; rfl
  | some y =>
   obtain ⟨kd, hy⟩ := hlo
   simp only [Option.map_some, he.opv hy, aLow, aBnd]
   rw [if_pos ⟨h1, by omega⟩]; rfl
 cases hi with
 | none =>
  simp only [hiIs] at hhi
  subst hhi
  simp only [Option.map_none, aBounds]
  rw [low n rfl]; simp
 | some y =>
  obtain ⟨kd, hy⟩ := hhi
  simp only [Option.map_some, he.opv hy, aBounds, aBnd]
  rw [if_pos ⟨by omega, h3⟩]
  simp only [Option.bind_some]
  rw [low b.toNat (by omega)]
theorem add_eq (a : Addr) (n : Nat) (hs : a.spot = none) : a.add n = ⟨a.block, a.off + n, none⟩ := by
 cases a
 simp only at hs
 subst hs
 unfold Addr.add
 split
 ·rename_i h; subst h; rfl
 ·rfl
theorem RS.part {α : Type} [Cell α] {v : Value} {xs : List α} (hR : RS Z v xs) {a b c' : Nat} (h1 : a ≤ b) (h2 : b ≤ xs.length) (hc : b - a ≤ c') : ∀ base, (∃ n c, v = .slice base n c) → RS Z (match base with | none => .slice none (b - a) c' | some ad => .slice (some (ad.add (a * csz α))) (b - a) c') ((xs.take b).drop a) := by
 rintro base ⟨n, c, hv⟩
 obtain ⟨a0, c0, rfl, h4, h5⟩ := hR
 injection hv with e1 e2 e3
 subst e1 e2 e3
 have hlen : ((xs.take b).drop a).length = b - a := by rw [List.length_drop, List.length_take]; omega
 cases a0 with
 | none =>
  subst h5
  refine ⟨none, c', by simp only [hlen], by rw [hlen]; exact hc, by simp⟩
 | some ad =>
  obtain ⟨h6, all, h7, h8, h9⟩ := h5
  have hm : b * csz α ≤ xs.length * csz α := Nat.mul_le_mul_right _ h2
  have hm2 : (b - a) * csz α + a * csz α = b * csz α := by rw [← Nat.add_mul, Nat.sub_add_cancel h1]
  refine ⟨some (ad.add (a * csz α)), c', by simp only [hlen], by rw [hlen]; exact hc, ?_, all, by rw [add_eq _ _ h6]; exact h7, ?_, ?_⟩
  ·rw [add_eq _ _ h6]
  ·rw [hlen, add_eq _ _ h6]; show ad.off + a * csz α + _ ≤ _; omega
  ·rw [hlen, add_eq _ _ h6]
   have := (h9.take b).drop a
   rw [List.take_take, Nat.min_eq_left hm, List.drop_take, List.drop_drop] at this
   have e : b * csz α - a * csz α = (b - a) * csz α := by omega
   rw [e] at this
   exact this
theorem o_slice {α : Type} [Cell α] {t : TypeId} {x : Operand} {lo hi : Option Operand} {v : Value} {xs : List α} {a b : Int} (hR : RS Z v xs) (hx : opv l x = some v) (ht : slTy P t = some (csz α)) (hlo : loIs l lo a) (hhi : hiIs l hi b xs.length)
  (h1 : 0 ≤ a) (h2 : a ≤ b) (h3 : b ≤ xs.length) :
  ∃ v', OpTo P l (.slice t x lo hi none) h v' h ∧ RS Z v' ((xs.take b.toNat).drop a.toNat) := by
 obtain ⟨base, c, rfl, h4, h5⟩ := id hR
 have hp := hR.part (a := a.toNat) (b := b.toNat) (c' := if c = xs.length ∧ b.toNat = xs.length then b.toNat - a.toNat else b.toNat - a.toNat + 2) (by omega) (by omega) (by split <;> omega) base ⟨_, _, rfl⟩
 refine ⟨_, fun e he => ?_, hp⟩
 unfold slTy at ht
 split at ht
 ·rename_i u hu
  simp only [aOp, he.opv hx, aSlice, hu, ht, Option.bind_some, Option.map_none, bounds_eq he hlo hhi h1 h2 h3]
  cases base with
  | none => rfl
  | some ad => simp only [h5.1]; rfl
 ·cases ht
theorem o_slice3 {α : Type} [Cell α] {t : TypeId} {x y z : Operand} {lo : Option Operand} {v : Value} {xs : List α} {a b : Int} {k1 k2 : IntKind} (hR : RS Z v xs) (hx : opv l x = some v) (ht : slTy P t = some (csz α)) (hlo : loIs l lo a)
  (hy : opv l y = some (.int k1 b)) (hz : opv l z = some (.int k2 b)) (h1 : 0 ≤ a) (h2 : a ≤ b) (h3 : b ≤ xs.length) :
  ∃ v', OpTo P l (.slice t x lo (some y) (some z)) h v' h ∧ RS Z v' ((xs.take b.toNat).drop a.toNat) ∧ CapEq v' := by
 obtain ⟨base, c, rfl, h4, h5⟩ := id hR
 have hp := hR.part (a := a.toNat) (b := b.toNat) (c' := b.toNat - a.toNat) (by omega) (by omega) (Nat.le_refl _) base ⟨_, _, rfl⟩
 refine ⟨_, fun e he => ?_, hp, by cases base <;> exact ⟨_, _, rfl⟩⟩
 unfold slTy at ht
 split at ht
 ·rename_i u hu
  have low : aLow b.toNat (some b.toNat) (lo.map e.ev) = some (a.toNat, b.toNat, some b.toNat) := by
   cases lo with
   | none => simp only [loIs] at hlo; subst hlo; rfl
   | some w =>
    obtain ⟨kd, hw⟩ := hlo
    simp only [Option.map_some, he.opv hw, aLow, aBnd]
    rw [if_pos ⟨h1, by omega⟩]; rfl
  have hbn : aBounds xs.length (lo.map e.ev) (some (.int k1 b)) (some (.int k2 b)) = some (a.toNat, b.toNat, some b.toNat) := by
   simp only [aBounds, aBnd]
   rw [if_pos ⟨by omega, h3⟩]
   simp only [Option.bind_some]
   rw [if_pos ⟨by omega, by omega⟩]
   simp only [Option.bind_some]
   rw [low]
  simp only [aOp, he.opv hx, Option.map_some, he.opv hy, he.opv hz, aSlice, hu, ht, Option.bind_some, hbn, if_true]
  cases base with
  | none => rfl
  | some ad => simp only [h5.1]; rfl
 ·cases ht
theorem o_call {f : Operand} {as : Array Operand} {ts : Array TypeId} {fi : FuncId} {first captured : Array Value} {vs args : List Value} {v : Value} (hc : callI P fi args h = some (v, h')) (hf : opv l f = some (.func (.func fi) first captured)) (ha : opvs l as.toList = some vs)
  (hargs : first.toList ++ vs ++ captured.toList = args) : OpTo P l (.call ⟨.value f, as, ts⟩) h v h' := by
 intro e he
 simp only [aOp, he.opv hf, opvs_ok he _ ha, hargs, hc]
def ResL (P : Program) (l : KL) (h : AH) : List ResultVar → List Value → Prop
 | [], vs => vs = []
 | r :: rs, vs => ∃ v vs', vs = v :: vs' ∧ (∀ e, EnvIs e l → aResult P e h r = some v) ∧ ResL P l h rs vs'
theorem ResL.run {e : Env} (he : EnvIs e l) : ∀ {rs : List ResultVar} {vs : List Value}, ResL P l h rs vs → rs.mapM (aResult P e h) = some vs := by
 intro rs
 induction rs with
 | nil => intro vs hr; simp only [ResL] at hr; subst hr; rfl
 | cons r rs ih =>
  rintro vs ⟨v, vs', rfl, h1, h2⟩
  rw [List.mapM_cons, h1 e he, ih h2]; rfl
theorem ResL.nil : ResL P l h [] [] := rfl
theorem ResL.tmp {t : Nat} {v : Value} {rs : List ResultVar} {vs : List Value} (hv : lk l t = some v) (hr : ResL P l h rs vs) : ResL P l h (.tmp t :: rs) (v :: vs) :=
 ⟨v, vs, rfl, fun e he => by simp only [aResult, he t v hv], hr⟩
theorem ResL.cell {t : TypeId} {a b i : Nat} {v : Value} {cells : List Value} {rs : List ResultVar} {vs : List Value} (ha : lk l a = some (.pointer (some ⟨b, 0, none⟩))) (hS : St h0 D Z0 Rv Z h L) (hi : L[i]? = some (.blk b cells)) (hv : ldB P t 0 cells = some v) (hr : ResL P l h rs vs) : ResL P l h (.cell a t :: rs) (v :: vs) := by
 refine ⟨v, vs, rfl, fun e he => ?_, hr⟩
 obtain ⟨z, hz⟩ := hS.ok _ (List.mem_of_getElem? hi)
 simp only [aResult, he a _ ha]
 exact aLoad_at (h := h) (a := ⟨b, 0, none⟩) (off := 0) (cells := cells) rfl hz hv (fun _ _ _ => trivial) (fun i _ => rfl) (by show 0 + (cells.length - 0) ≤ cells.length; omega)
def tupV : List Value → Value
 | [v] => v
 | vs => .tuple vs.toArray
def Fin (P : Program) (fn : Func) (hs : AH) (A : List Itm) (Z : Zn) (Q : Value → Zn → List Itm → Prop) (l : KL) (h1 : AH) : Prop :=
 ∃ vs Z' A', ResL P l h1 fn.results.toList vs ∧ St hs (idsL A) Z (0, 0) Z' h1 A' ∧ Q (tupV vs) Z' A'
theorem fn_intro {A : List Itm} {f : FuncId} {fn : Func} {args : List Value} {Q : Value → Zn → List Itm → Prop} (hf : P.funcs[f]? = some fn) (hb : fn.body.isSome = true) (hn : Nat.ble args.length fn.ntmps = true) (hsc : scalarFn P fn = false) (hP : Pre Z h A)
  (hw : ∀ hs, St hs (idsL A) Z (0, 0) Z hs A → W P (bodyOf fn) (argsL 0 args) hs (Fin P fn hs A Z Q) (fun x l h => x = .ret ∧ Fin P fn hs A Z Q l h)) :
  ∃ v h' Z' A', callI P f args h = some (v, h') ∧ St h (idsL A) Z (0, 0) Z' h' A' ∧ Q v Z' A' := by
 obtain ⟨c, hc⟩ := Option.isSome_iff_exists.1 hb
 have hbo : bodyOf fn = c := by simp [bodyOf, hc]
 rw [hbo] at hw
 have main : ∀ e l h1, EnvIs e l → Fin P fn { h with low := h.next } A Z Q l h1 → ∃ v, aResults P fn.results.toList e h1 = some v ∧ ∃ Z' A', St h (idsL A) Z (0, 0) Z' (aLeave (scalarFn P fn) h v h1).2 A' ∧ Q v Z' A' := by
  rintro e l h1 he ⟨vs, Z', A', hr, hS, hq⟩
  refine ⟨tupV vs, ?_, Z', A', ?_, hq⟩
  ·simp only [aResults, hr.run he, Option.map_some, Option.some.injEq]
   unfold tupV
   split
   ·rfl
   ·rename_i hne; split
    ·rename_i q; exact absurd rfl (hne _)
    ·rfl
  ·rw [hsc]
   simp only [aLeave]
   rw [if_neg (fun q => by cases q.1)]
   exact hS.leave
 obtain ⟨v, h', h1, Z', A', h2, h3⟩ := callI_intro (P := P) (h := h) (Q := fun v h' => ∃ Z' A', St h (idsL A) Z (0, 0) Z' h' A' ∧ Q v Z' A') hf hc (Nat.le_of_ble_eq_true hn)
  (Am.wp_mono (hw _ hP.start _ (EnvIs.args args)) (fun e h1 ⟨l, he, hfin⟩ => main e l h1 he hfin) (fun x e h1 ⟨l, he, hx, hfin⟩ => ⟨hx, main e l h1 he hfin⟩))
 exact ⟨v, h', Z', A', h1, h2, h3⟩
theorem St.shrink (hS : St h0 D Z Rv Z' h L) : St h0 D Z Rv Z h [] :=
 { hS with
  zin := fun b cs hz => hS.zin b cs (hS.zle b cs hz)
  ok := fun p hp => by cases hp
  dj := List.Pairwise.nil
  dz := fun p hp => by cases hp
  new := fun p hp => by cases hp
  zle := Zle.refl _
  zfr := fun b hb => .inl hb }
theorem Inv.st (hI : Inv Z h) : St h [] Z (0, 0) Z h [] where
 zin := hI.zin
 liv := hI.liv
 ok p hp := by cases hp
 dj := List.Pairwise.nil
 dz p hp := by cases hp
 frm b _ _ := rfl
 nxt := Nat.le_refl _
 new p hp := by cases hp
 low x h1 _ _ := h1
 zle := Zle.refl _
 zfr b hb := .inl hb
 rsv b _ h2 := absurd h2 (Nat.not_lt_zero _)
 rlt := Nat.zero_le _
 rge := .inr rfl
theorem fn_plain {f : FuncId} {fn : Func} {args : List Value} {Q : Value → Prop} (hf : P.funcs[f]? = some fn) (hb : fn.body.isSome = true) (hn : Nat.ble args.length fn.ntmps = true) (hI : Inv Z h)
  (hw : ∀ hs, St hs [] Z (0, 0) Z hs [] → W P (bodyOf fn) (argsL 0 args) hs (Fin P fn hs [] Z (fun v _ _ => Q v)) (fun x l h => x = .ret ∧ Fin P fn hs [] Z (fun v _ _ => Q v) l h)) :
  ∃ v h', callI P f args h = some (v, h') ∧ St h [] Z (0, 0) Z h' [] ∧ Q v := by
 obtain ⟨c, hc⟩ := Option.isSome_iff_exists.1 hb
 have hbo : bodyOf fn = c := by simp [bodyOf, hc]
 rw [hbo] at hw
 have main : ∀ e l h1, EnvIs e l → Fin P fn { h with low := h.next } [] Z (fun v _ _ => Q v) l h1 → ∃ v, aResults P fn.results.toList e h1 = some v ∧ St h [] Z (0, 0) Z (aLeave (scalarFn P fn) h v h1).2 [] ∧ Q v := by
  rintro e l h1 he ⟨vs, Z', A', hr, hS, hq⟩
  refine ⟨tupV vs, ?_, ?_, hq⟩
  ·simp only [aResults, hr.run he, Option.map_some, Option.some.injEq]
   unfold tupV
   split
   ·rfl
   ·rename_i hne; split
    ·rename_i q; exact absurd rfl (hne _)
    ·rfl
  ·unfold aLeave
   split
   ·exact hI.st
   ·exact (hS.leave).shrink
 obtain ⟨v, h', h1, h2, h3⟩ := callI_intro (P := P) (h := h) (Q := fun v h' => St h [] Z (0, 0) Z h' [] ∧ Q v) hf hc (Nat.le_of_ble_eq_true hn)
  (Am.wp_mono (hw _ hI.start _ (EnvIs.args args)) (fun e h1 ⟨l, he, hfin⟩ => main e l h1 he hfin) (fun x e h1 ⟨l, he, hx, hfin⟩ => ⟨hx, main e l h1 he hfin⟩))
 exact ⟨v, h', h1, h2, h3⟩
end
end Go.Proofs.Ytahcngeimlkcgaa.Sy
