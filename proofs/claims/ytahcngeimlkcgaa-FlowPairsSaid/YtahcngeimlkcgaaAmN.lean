/- The abstract machine: regions that draw; what a run in the text's order shows. -/
import Derived.Test.YtahcngeimlkcgaaAmM
namespace Go.Proofs.Ytahcngeimlkcgaa.Am
open Go
set_option linter.unusedVariables false
set_option linter.unusedSectionVars false
set_option linter.unusedSimpArgs false
def bits (m : Nat) : List Nat := (List.range (m + 1)).filter fun j => m.testBit j
theorem mem_bits {m j : Nat} : j ∈ bits m ↔ m.testBit j = true := by
 unfold bits
 rw [List.mem_filter, List.mem_range]
 refine ⟨fun h => h.2, fun h => ⟨?_, h⟩⟩
 have := Nat.ge_two_pow_of_testBit h
 have h2 : j < 2 ^ j := Nat.lt_two_pow_self
 omega
def Pr (L : List Oper) (i : Nat) : List Nat := bits ((preds L).getD i 0)
theorem maskOf_bit {o : Oper} {n : Nat} {acc : List Nat} {j : Nat} (h : (maskOf o n acc).testBit j = true) : ∃ e ∈ o.after.toList, Region.binds .any e = true ∧ (j = e.on ∨ (e.on < n ∧ (acc.getD (n - 1 - e.on) 0).testBit j = true)) := by
 have key : ∀ (l : List Edge) (m : Nat), (l.foldl (fun m e => if Region.binds .any e then Nat.lor (Nat.lor m (Nat.shiftLeft 1 e.on)) (if Nat.blt e.on n then acc.getD (n - 1 - e.on) 0 else 0) else m) m).testBit j = true →
   m.testBit j = true ∨ ∃ e ∈ l, Region.binds .any e = true ∧ (j = e.on ∨ (e.on < n ∧ (acc.getD (n - 1 - e.on) 0).testBit j = true)) := by
  intro l
  induction l with
  | nil => intro m h; exact .inl h
  | cons e l ih =>
   intro m h
   rcases ih _ h with h1 | ⟨e', h1, h2⟩
   ·by_cases hb : Region.binds .any e = true
    ·simp only [if_pos hb] at h1
     have e1 : ∀ a b : Nat, (Nat.lor a b).testBit j = (a.testBit j || b.testBit j) := fun a b => Nat.testBit_or a b j
     rw [e1, testBit_lor_shift] at h1
     simp only [Bool.or_eq_true, decide_eq_true_eq] at h1
     rcases h1 with (h1 | h1) | h1
     ·exact .inl h1
     ·exact .inr ⟨e, by simp, hb, .inl h1.symm⟩
     ·by_cases hlt : e.on < n
      ·rw [if_pos (by rw [Nat.blt_eq]; exact hlt)] at h1
       exact .inr ⟨e, by simp, hb, .inr ⟨hlt, h1⟩⟩
      ·rw [if_neg (by rw [Nat.blt_eq]; exact hlt)] at h1
       simp at h1
    ·simp only [if_neg hb] at h1; exact .inl h1
   ·exact .inr ⟨e', by simp [h1], h2⟩
 rcases key _ 0 h with h1 | h1
 ·simp at h1
 ·exact h1
theorem predsAux_len : ∀ (os : List Oper) (n : Nat) (acc : List Nat), (predsAux os n acc).length = acc.length + os.length := by
 intro os
 induction os with
 | nil => intro n acc; simp [predsAux]
 | cons o os ih => intro n acc; simp only [predsAux, forceN_eq, ih, List.length_cons]; omega
theorem rev_getD (acc : List Nat) (i : Nat) (h : i < acc.length) : acc.reverse.getD i 0 = acc.getD (acc.length - 1 - i) 0 := by
 rw [List.getD_eq_getElem?_getD, List.getD_eq_getElem?_getD, List.getElem?_reverse h]
theorem predsAux_old : ∀ (os : List Oper) (n : Nat) (acc : List Nat) (i : Nat), acc.length = n → i < n → (predsAux os n acc).getD i 0 = acc.getD (n - 1 - i) 0 := by
 intro os
 induction os with
 | nil => intro n acc i hn h; simp only [predsAux]; rw [rev_getD _ _ (by omega), hn]
 | cons o os ih =>
  intro n acc i hn h
  simp only [predsAux, forceN_eq]
  rw [ih _ _ _ (by simp [hn]) (by omega)]
  have : n + 1 - 1 - i = (n - 1 - i) + 1 := by omega
  rw [this]
  simp [List.getD_eq_getElem?_getD]
theorem predsAux_new : ∀ (os : List Oper) (n : Nat) (acc : List Nat) (k : Nat) (o : Oper), acc.length = n → os[k]? = some o → ∀ j, ((predsAux os n acc).getD (n + k) 0).testBit j = true →
  ∃ e ∈ o.after.toList, Region.binds .any e = true ∧ (j = e.on ∨ (e.on < n + k ∧ ((predsAux os n acc).getD e.on 0).testBit j = true)) := by
 intro os
 induction os with
 | nil => intro n acc k o hn h; simp at h
 | cons o os ih =>
  intro n acc k o' hn h j hj
  simp only [predsAux, forceN_eq] at hj ⊢
  cases k with
  | zero =>
   simp at h; subst h
   rw [Nat.add_zero, predsAux_old _ _ _ _ (by simp [hn]) (by omega)] at hj
   simp [List.getD_eq_getElem?_getD] at hj
   obtain ⟨e, he, hb, hc⟩ := maskOf_bit hj
   refine ⟨e, he, hb, hc.imp id fun ⟨h1, h2⟩ => ⟨by omega, ?_⟩⟩
   rw [predsAux_old _ _ _ _ (by simp [hn]) (by omega)]
   have : n + 1 - 1 - e.on = (n - 1 - e.on) + 1 := by omega
   rw [this]
   simpa [List.getD_eq_getElem?_getD] using h2
  | succ k =>
   have e1 : n + (k + 1) = (n + 1) + k := by omega
   rw [e1] at hj ⊢
   exact ih _ _ k o' (by simp [hn]) (by simpa using h) j hj
theorem Pr_spec {L : List Oper} {i : Nat} {o : Oper} (ho : L[i]? = some o) {j : Nat} (hj : j ∈ Pr L i) : ∃ e ∈ o.after.toList, Region.binds .any e = true ∧ (j = e.on ∨ (e.on < i ∧ j ∈ Pr L e.on)) := by
 have := predsAux_new L 0 [] i o rfl ho j (by simpa [Pr, preds, mem_bits] using hj)
 simpa [Pr, preds, mem_bits] using this
theorem Pr_none {L : List Oper} {i : Nat} (h : L[i]? = none) : Pr L i = [] := by
 have : (preds L).length = L.length := by simp [preds, predsAux_len]
 unfold Pr
 rw [List.getD_eq_getElem?_getD, List.getElem?_eq_none (by rw [this]; exact List.getElem?_eq_none_iff.1 h)]
 rfl
theorem Pr_lt {L : List Oper} (hb : backOk L = true) : ∀ (i j : Nat), j ∈ Pr L i → j < i := by
 intro i
 induction i using Nat.strongRecOn with
 | _ i ih =>
  intro j hj
  cases ho : L[i]? with
  | none => rw [Pr_none ho] at hj; cases hj
  | some o =>
   obtain ⟨e, he, hbn, hc⟩ := Pr_spec ho hj
   have hi : i < L.length := (List.getElem?_eq_some_iff.1 ho).1
   simp only [backOk, List.all_eq_true, List.mem_range] at hb
   have h1 := hb i hi e (by rw [List.getD_eq_getElem?_getD, ho]; exact he)
   rw [hbn] at h1
   have h2 : e.on < i := by simpa using h1
   rcases hc with rfl | ⟨_, h3⟩
   ·exact h2
   ·exact Nat.lt_trans (ih e.on h2 j h3) h2
theorem ordered_iff {L : List Oper} {i j : Nat} : ordered (preds L) i j = true ↔ j ∈ Pr L i ∨ i ∈ Pr L j := by
 simp [ordered, Pr, mem_bits]
theorem greatest (p : Nat → Prop) : ∀ (n : Nat), (∃ j, j < n ∧ p j) → ∃ j, j < n ∧ p j ∧ ∀ k, j < k → k < n → ¬ p k := by
 intro n
 induction n with
 | zero => rintro ⟨j, h, _⟩; omega
 | succ n ih =>
  rintro ⟨j, h, hp⟩
  by_cases hn : p n
  ·exact ⟨n, by omega, hn, fun k h1 h2 => by omega⟩
  ·obtain ⟨m, h1, h2, h3⟩ := ih ⟨j, by
    have : j ≠ n := fun e => hn (e ▸ hp)
    omega, hp⟩
   refine ⟨m, by omega, h2, fun k h4 h5 hk => ?_⟩
   by_cases e : k = n
   ·exact hn (e ▸ hk)
   ·exact h3 k h4 (by omega) hk
theorem bytes_eq {a b : ByteArray} (h : a.data.toList = b.data.toList) : a = b := by
 cases a; cases b
 congr 1
 exact Array.ext' h
theorem sameV_eq {a b : Value} (h : sameV a b = true) : a = b := by
 unfold sameV at h
 split at h
 ·simp at h; rw [h]
 ·simp at h; rw [h.1, h.2]
 ·exact congrArg Value.string (bytes_eq (by simpa using h))
 ·simp at h; rw [h]
 ·simp at h; rw [h.1.1, h.1.2, h.2]
 ·rename_i as bs
  simp only [Bool.and_eq_true, decide_eq_true_eq, List.all_eq_true] at h
  obtain ⟨h1, h2⟩ := h
  congr 1
  apply Array.ext h1
  intro i hi hi2
  have := h2 (as[i], bs[i]) (by
   rw [List.mem_iff_getElem?]
   refine ⟨i, ?_⟩
   rw [List.getElem?_zip_eq_some]
   exact ⟨by simp [hi], by simp [hi2]⟩)
  simp only at this
  split at this
  ·simp at this; rename_i q1 q2; rw [q1, q2, this]
  ·simp at this; rename_i q1 q2; rw [q1, q2, this.1, this.2]
  ·rename_i q1 q2; rw [q1, q2]; exact congrArg Value.string (bytes_eq (by simpa using this))
  ·simp at this; rename_i q1 q2; rw [q1, q2, this]
  ·simp at this; rename_i q1 q2; rw [q1, q2, this.1.1, this.1.2, this.2]
  ·cases this
 ·cases h
section
variable {P : Program}
def lookBlk (ev : Operand → Value) : Op → Option Nat
 | .load _ x => match ev x with | .pointer (some a) => some a.block | _ => none
 | .convert _ _ x => match ev x with | .slice (some a) n _ => if n = 0 then none else some a.block | _ => none
 | _ => none
theorem look_dep {ev : Operand → Value} {op : Op} (hc : cls P op = .look) {h h' : AH} (hb : ∀ b, lookBlk ev op = some b → h.blk b = h'.blk b) : aLook P ev op h = aLook P ev op h' := by
 cases op <;> simp only [cls] at hc <;> try (cases hc; done)
 case load t x =>
  simp only [aLook, aLoad]
  split
  ·rename_i a hx
   have hbb := hb a.block (by simp [lookBlk, hx])
   have h1 : ∀ n, h.cellsAt a n = h'.cellsAt a n := fun n => by simp only [AH.cellsAt, hbb]
   have h2 : h.load a = h'.load a := by simp only [AH.load, hbb]
   simp only [h1, h2]
  ·rfl
 case convert s d x =>
  split at hc
  ·rename_i hd
   simp only [aLook]
   unfold aConvert
   rw [hd]
   cases hu : P.underlying s with
   | none => simp
   | some u =>
    cases hx : ev x <;> try (cases u <;> rfl)
    rename_i a n c
    cases a with
    | none => cases u <;> simp; split <;> rfl
    | some a =>
     cases u <;> try rfl
     rename_i e
     simp only
     split
     ·by_cases h0 : n = 0
      ·simp [h0]
      ·rw [if_neg h0, if_neg h0]
       have hbb := hb a.block (by simp [lookBlk, hx, h0])
       have h1 : h.cellsAt a n = h'.cellsAt a n := by simp only [AH.cellsAt, hbb]
       rw [h1]
       cases h'.cellsAt a n with
       | none => rfl
       | some cs => cases hq : bytesOf cs <;> simp [hq]
     ·rfl
  ·cases hc
  ·cases hc
 case call c => split at hc <;> cases hc
theorem look_live {ev : Operand → Value} {op : Op} (hc : cls P op = .look) {h : AH} {v : Value} (hl : aLook P ev op h = some v) : ∀ b, lookBlk ev op = some b → h.blk b ≠ none := by
 intro b hb hn
 cases op <;> simp only [cls] at hc <;> try (cases hc; done)
 case load t x =>
  simp only [lookBlk] at hb
  split at hb
  ·rename_i a hx
   simp at hb; subst hb
   simp only [aLook, aLoad, hx] at hl
   cases hd : P.underlying t with
   | none => rw [hd] at hl; cases hl
   | some d =>
    rw [hd] at hl
    simp only [Option.bind_some] at hl
    have h1 : ∀ n, h.cellsAt a n = none := fun n => by unfold AH.cellsAt; cases a.spot <;> simp [hn]
    have h2 : h.load a = none := by unfold AH.load; cases a.spot <;> simp [hn]
    split at hl
    ·cases hz : tsize P t with
     | none => rw [hz] at hl; cases hl
     | some s => rw [hz] at hl; simp [h1] at hl
    ·rw [h2] at hl; cases hl
  ·cases hb
 case convert s d x =>
  split at hc
  ·rename_i hd
   simp only [lookBlk] at hb
   split at hb
   ·rename_i a n c hx
    split at hb
    ·cases hb
    ·rename_i h0
     simp at hb; subst hb
     simp only [aLook] at hl
     unfold aConvert at hl
     rw [hd, hx] at hl
     have h1 : ∀ n, h.cellsAt a n = none := fun n => by unfold AH.cellsAt; cases a.spot <;> simp [hn]
     cases hu : P.underlying s with
     | none => rw [hu] at hl; simp at hl
     | some u =>
      rw [hu] at hl
      cases u <;> try (simp at hl; done)
      simp only [h0, if_false, h1, Option.bind_none] at hl
      split at hl <;> simp at hl
   ·cases hb
  ·cases hc
  ·cases hc
 case call c => split at hc <;> cases hc
theorem map_still {α : Type} {o : Option Value} {h h' : α} {v : Value} (hm : o.map (·, h) = some (v, h')) : h' = h ∧ ∀ h2 : α, o.map (·, h2) = some (v, h2) := by
 cases o with
 | none => cases hm
 | some u => simp at hm; obtain ⟨rfl, rfl⟩ := hm; exact ⟨rfl, fun _ => rfl⟩
theorem pure_still {call : ACallee} {ev : Operand → Value} {op : Op} (hc : cls P op = .pure) {h h' : AH} {v : Value} (hop : aOp P call ev op h = some (v, h')) : h' = h ∧ ∀ h2, aOp P call ev op h2 = some (v, h2) := by
 cases op <;> simp only [cls] at hc <;> try (cases hc; done)
 case pick c a b => simp only [aOp] at hop ⊢; split at hop <;> simp at hop; obtain ⟨rfl, rfl⟩ := hop; rename_i t ht; exact ⟨rfl, fun h2 => by simp [ht]⟩
 case move x => simp [aOp] at hop ⊢; obtain ⟨rfl, rfl⟩ := hop; simp
 case assign x => simp [aOp] at hop ⊢; obtain ⟨rfl, rfl⟩ := hop; simp
 case nilCheck x =>
  simp only [aOp] at hop ⊢
  split at hop
  ·rename_i a ha; simp at hop; obtain ⟨rfl, rfl⟩ := hop; exact ⟨rfl, fun h2 => by simp [ha]⟩
  ·rename_i f fi ca ha; simp at hop; obtain ⟨rfl, rfl⟩ := hop; exact ⟨rfl, fun h2 => by simp [ha]⟩
  ·cases hop
 case makeInterface t x =>
  simp only [aOp] at hop ⊢
  split at hop
  ·cases hop
  ·rename_i d hnd hu; simp at hop; obtain ⟨rfl, rfl⟩ := hop
   exact ⟨rfl, fun h2 => by cases d <;> first | rfl | (exact absurd rfl (hnd _)) | (simp [hu])⟩
  ·cases hop
 case makeFunc fn fi ca =>
  cases fn <;> simp only [aOp] at hop ⊢ <;> try (cases hop; done)
  injection hop with hop; injection hop with e1 e2; subst e1; subst e2; exact ⟨rfl, fun _ => rfl⟩
 case extract x i =>
  simp only [aOp] at hop ⊢
  split at hop
  ·rename_i vs hv; obtain ⟨q1, q2⟩ := map_still hop; exact ⟨q1, fun h2 => by simpa [hv] using q2 h2⟩
  ·cases hop
 case convert s d x =>
  split at hc
  ·cases hc
  ·rename_i k hd
   simp only [aOp] at hop ⊢
   unfold aConvert at hop ⊢
   rw [hd] at hop ⊢
   cases hu : P.underlying s with
   | none => rw [hu] at hop; simp at hop
   | some u =>
    rw [hu] at hop
    cases hx : ev x <;> rw [hx] at hop <;> try (cases u <;> simp at hop; done)
    simp at hop ⊢
    obtain ⟨rfl, rfl⟩ := hop
    simp
  ·cases hc
 case call c =>
  have key : ∀ (b : Builtin) (ts : List TypeId) (args : List Value), (b = .len ∨ b = .max ∨ b = .min) → aBuiltin P b ts args h = some (v, h') → h' = h ∧ ∀ h2, aBuiltin P b ts args h2 = some (v, h2) := by
   intro b ts args hb hq
   rcases hb with rfl | rfl | rfl
   ·cases ts with
    | nil => simp [aBuiltin] at hq
    | cons t ts => cases args with
     | nil => simp [aBuiltin] at hq
     | cons x xs => exact map_still hq
   ·cases args with
    | nil => simp [aBuiltin] at hq
    | cons x xs => exact map_still hq
   ·cases args with
    | nil => simp [aBuiltin] at hq
    | cons x xs => exact map_still hq
  split at hc
  all_goals try (cases hc; done)
  all_goals
   rename_i hb
   simp only [aOp, hb] at hop ⊢
   exact key _ _ _ (by simp) hop
 all_goals
  simp only [aOp] at hop ⊢
  exact map_still hop
end
end Go.Proofs.Ytahcngeimlkcgaa.Am
