/- Steps: texts (put together, cut, read by bytes, made of bytes, turned to bytes); structs held against one another; labels. -/
import Derived.Test.YtahcngeimlkcgaaSyF
namespace Go.Proofs.Ytahcngeimlkcgaa.Sy
open Go Am
open Cell (rc)
set_option linter.unusedVariables false
set_option linter.unusedSectionVars false
set_option linter.unusedSimpArgs false
abbrev iand (k : IntKind) (a b : Int) : Int := k.wrap (BitVec.ofInt k.bits a &&& BitVec.ofInt k.bits b).toNat
abbrev ior (k : IntKind) (a b : Int) : Int := k.wrap (BitVec.ofInt k.bits a ||| BitVec.ofInt k.bits b).toNat
abbrev ishl (k : IntKind) (a b : Int) : Int := k.wrap (a * 2 ^ (min b.toNat k.bits))
abbrev ishr (k : IntKind) (a b : Int) : Int := a.fdiv (2 ^ (min b.toNat k.bits))
section
variable {P : Program} {l : KL} {h h' : AH} {Z Z' Z0 : Zn} {h0 : AH} {D : List Nat} {Rv : Nat × Nat} {L : List Itm}
theorem o_sadd {t t2 : TypeId} {x y : Operand} {a b : List UInt8} (hx : opv l x = some (.string ⟨⟨a⟩⟩)) (hy : opv l y = some (.string ⟨⟨b⟩⟩)) (hl : a.length + b.length ≤ 4611686018427387904) :
    OpTo P l (.binOp .add t x y t2) h (.string ⟨⟨a ++ b⟩⟩) h := by
  intro e he
  have hs : (ByteArray.mk ⟨a⟩ ++ ByteArray.mk ⟨b⟩) = ByteArray.mk ⟨a ++ b⟩ := by apply ByteArray.ext; simp
  have hn : ¬ (((ByteArray.mk ⟨a⟩).size + (ByteArray.mk ⟨b⟩).size : Nat) : Int) > IntKind.i64.max := by
    have h1 : IntKind.i64.max = 9223372036854775807 := by decide
    have h2 : (ByteArray.mk ⟨a⟩).size = a.length := rfl
    have h3 : (ByteArray.mk ⟨b⟩).size = b.length := rfl
    rw [h1, h2, h3]; omega
  simp only [aOp, he.opv hx, he.opv hy, aBin, aStr, if_neg hn, hs, Option.map_some]
def strTy (P : Program) (t : TypeId) : Bool := match P.underlying t with | some .string => true | _ => false
theorem strTy_eq {t : TypeId} (ht : strTy P t = true) : P.underlying t = some .string := by
  unfold strTy at ht; split at ht
  · assumption
  · cases ht
theorem o_sslice {t : TypeId} {x : Operand} {lo hi : Option Operand} {bs : List UInt8} {a b : Int} (hx : opv l x = some (.string ⟨⟨bs⟩⟩)) (ht : strTy P t = true) (hlo : loIs l lo a) (hhi : hiIs l hi b bs.length) (h1 : 0 ≤ a) (h2 : a ≤ b) (h3 : b ≤ bs.length) :
    OpTo P l (.slice t x lo hi none) h (.string ⟨⟨(bs.take b.toNat).drop a.toNat⟩⟩) h := by
  intro e he
  have hs : ∀ m n, (ByteArray.mk ⟨bs⟩).extract m n = ByteArray.mk ⟨(bs.take n).drop m⟩ := fun m n => by apply ByteArray.ext; simp [List.drop_take]
  have hb := bounds_eq he hlo hhi h1 h2 h3
  have hsz : (ByteArray.mk ⟨bs⟩).size = bs.length := rfl
  simp only [aOp, he.opv hx, aSlice, strTy_eq ht, Option.map_none, Option.isSome_none, Bool.false_eq_true, if_false, hsz, hb, Option.map_some, hs]
theorem ba_get (l : List UInt8) (a : Nat) : (ByteArray.mk ⟨l⟩)[a]? = l[a]? := by
  by_cases h : a < l.length
  · rw [List.getElem?_eq_getElem h, getElem?_pos (ByteArray.mk ⟨l⟩) a h]; rfl
  · rw [List.getElem?_eq_none (by omega), getElem?_neg (ByteArray.mk ⟨l⟩) a h]
theorem o_sindex {t : TypeId} {x y : Operand} {bs : List UInt8} {i : Int} {kd : IntKind} {c : UInt8} (hx : opv l x = some (.string ⟨⟨bs⟩⟩)) (hy : opv l y = some (.int kd i)) (ht : strTy P t = true) (h1 : 0 ≤ i) (hc : bs[i.toNat]? = some c) :
    OpTo P l (.index t x y) h (.int .u8 (c.toNat : Int)) h := by
  intro e he
  simp only [aOp, he.opv hx, he.opv hy, aIndex, strTy_eq ht, if_pos h1, ba_get, hc, Option.map_some]
theorem str_cells (bs : List UInt8) : RCs Z (bs.map byteV) bs := by
  induction bs with
  | nil => exact RCs.nil
  | cons b bs ih => exact ⟨[byteV b], bs.map byteV, rfl, rfl, ih⟩
theorem str_news (bs : List UInt8) (h : AH) : aNews 1 (.string ⟨⟨bs⟩⟩) h = some (bs.length, bs.map byteV) ∧ RCs Z (bs.map byteV) bs := ⟨rfl, str_cells bs⟩
def u8Ty (P : Program) (e : TypeId) : Bool := match P.underlying e with | some (.int .u8) => true | _ => false
theorem u8Ty_eq {t : TypeId} (ht : u8Ty P t = true) : P.underlying t = some (.int .u8) := by
  unfold u8Ty at ht; split at ht
  · assumption
  · cases ht
def tbTy (P : Program) (s d : TypeId) : Bool := match P.underlying s, P.underlying d with | some .string, some (.slice e) => u8Ty P e | _, _ => false
theorem tbTy_eq {s d : TypeId} (ht : tbTy P s d = true) : P.underlying s = some .string ∧ ∃ e, P.underlying d = some (.slice e) ∧ P.underlying e = some (.int .u8) := by
  unfold tbTy at ht; split at ht
  · rename_i e h1 h2; exact ⟨h1, e, h2, u8Ty_eq ht⟩
  · cases ht
def tsTy (P : Program) (s d : TypeId) : Bool := match P.underlying s, P.underlying d with | some (.slice e), some .string => u8Ty P e | _, _ => false
theorem tsTy_eq {s d : TypeId} (ht : tsTy P s d = true) : P.underlying d = some .string ∧ ∃ e, P.underlying s = some (.slice e) ∧ P.underlying e = some (.int .u8) := by
  unfold tsTy at ht; split at ht
  · rename_i e h1 h2; exact ⟨h2, e, h1, u8Ty_eq ht⟩
  · cases ht
theorem St.freezeB {b : Nat} {cells : List Value} (hS : St h0 D Z0 Rv Z h (.blk b cells :: L)) : Zle Z (Z.ins b cells) ∧ St h0 D Z0 Rv (Z.ins b cells) h L := by
  have hp : Itm.blk b cells ∈ Itm.blk b cells :: L := List.mem_cons_self
  obtain ⟨z, h3⟩ := hS.ok _ hp
  have hids : (Itm.blk b cells).ids = [b] := rfl
  have hzb : Z b = none := hS.dz _ hp b (by rw [hids]; simp)
  have hle : Zle Z (Z.ins b cells) := fun x cs hx => by
    rw [Zn.ins_ne _ _ (fun e => by rw [e, hzb] at hx; cases hx)]; exact hx
  have hpw := List.pairwise_cons.1 hS.dj
  refine ⟨hle, ?_⟩
  exact { hS.tail with
    zin := fun x cs hx => by
      by_cases e : x = b
      · subst e; rw [Zn.ins_self] at hx; exact ⟨_, h3, Option.some.inj hx⟩
      · rw [Zn.ins_ne _ _ e] at hx; exact hS.zin x cs hx
    dz := fun q hq x hx => by
      rw [Zn.ins_ne _ _ (fun e => hpw.1 q hq b (by rw [hids]; simp) (by rw [← e]; exact hx))]
      exact hS.tail.dz q hq x hx
    zle := hS.zle.trans hle
    zfr := fun x hx => by
      by_cases e : x = b
      · subst e; exact .inr (hS.new _ hp x (by rw [hids]; simp))
      · rw [Zn.ins_ne _ _ e] at hx; exact hS.zfr x hx }
theorem o_tobytes {s d : TypeId} {x : Operand} {bs : List UInt8} (hS : St h0 D Z0 Rv Z h L) (hx : opv l x = some (.string ⟨⟨bs⟩⟩)) (ht : tbTy P s d = true) :
    ∃ v h' Z', OpTo P l (.convert s d x) h v h' ∧ Zle Z Z' ∧ RS Z' v bs ∧ St h0 D Z0 Rv Z' h' L ∧ h'.low = h.low := by
  obtain ⟨h1, e, h2, h3⟩ := tbTy_eq ht
  have hA := hS.alloc (bs.map byteV) 1 (.blk h.next (bs.map byteV)) ⟨1, by rw [AH.blk_alloc, if_pos rfl]⟩ rfl
  obtain ⟨hz, hB⟩ := hA.freezeB
  refine ⟨.slice (some ⟨h.next, 0, none⟩) bs.length (bs.length + 2), _, _, fun ev he => ?_, hz, ?_, hB, rfl⟩
  · simp only [aOp, he.opv hx, aConvert, h1, h2, h3]
    rfl
  · refine ⟨some ⟨h.next, 0, none⟩, bs.length + 2, rfl, by omega, rfl, bs.map byteV, Zn.ins_self _ _ _, ?_, ?_⟩
    · have : csz UInt8 = 1 := rfl
      rw [this, List.length_map]; show 0 + bs.length * 1 ≤ bs.length; omega
    · have : csz UInt8 = 1 := rfl
      rw [this, List.drop_zero, List.take_of_length_le (by rw [List.length_map]; omega)]
      exact str_cells bs
theorem bytesOf_cells : ∀ (xs : List UInt8) (cells : List Value), RCs Z cells xs → bytesOf cells = some xs := by
  intro xs
  induction xs with
  | nil => intro cells hc; simp only [RCs] at hc; subst hc; rfl
  | cons x xs ih =>
    rintro cells ⟨cs, rest, rfl, h1, h2⟩
    have h1' : cs = [.int .u8 (x.toNat : Int)] := h1
    subst h1'
    simp only [List.singleton_append, bytesOf, ih rest h2, Option.map_some, Int.toNat_natCast]
    congr 2
    simp
theorem conv_str {s d : TypeId} {v : Value} {xs : List UInt8} {cells : List Value} (hv : ∃ a c, v = .slice a xs.length c) (hn : aNews 1 v h = some (xs.length, cells)) (hR : RCs Z cells xs) (ht : tsTy P s d = true) :
    aConvert P s d v h = some (.string ⟨⟨xs⟩⟩, h) := by
  obtain ⟨h1, e, h2, h3⟩ := tsTy_eq ht
  obtain ⟨a, c, rfl⟩ := hv
  cases a with
  | none =>
    simp only [aNews] at hn
    split at hn
    · rename_i q
      have : xs = [] := List.eq_nil_of_length_eq_zero q
      subst this
      simp only [aConvert, h1, h2, h3]; rfl
    · cases hn
  | some a =>
    simp only [aNews] at hn
    obtain ⟨cs, q1, q2⟩ := Option.map_eq_some_iff.1 hn
    injection q2 with _ q2
    subst q2
    rw [Nat.mul_one] at q1
    simp only [aConvert, h1, h2, h3]
    split
    · rename_i q
      have : xs = [] := List.eq_nil_of_length_eq_zero q
      subst this; rfl
    · rw [q1]
      simp only [Option.bind_some, bytesOf_cells xs _ hR, Option.map_some]
theorem o_tostr {s d : TypeId} {x : Operand} {v : Value} {xs : List UInt8} (hR : RS Z v xs) (hI : Inv Z h) (hx : opv l x = some v) (ht : tsTy P s d = true) : OpTo P l (.convert s d x) h (.string ⟨⟨xs⟩⟩) h := by
  intro e he
  obtain ⟨news, h1, h2⟩ := hR.news hI
  obtain ⟨a, c, hv, _⟩ := hR
  simp only [aOp, he.opv hx]
  exact conv_str ⟨a, c, hv⟩ h1 h2 ht
theorem o_tostrG {s d : TypeId} {x : Operand} {v : Value} {xs : List UInt8} {cells : List Value} {j : Nat} (hS : St h0 D Z0 Rv Z h L) (hi : L[j]? = some (.gs v cells (csz UInt8))) (hR : RCs Z cells xs) (hx : opv l x = some v) (ht : tsTy P s d = true) : OpTo P l (.convert s d x) h (.string ⟨⟨xs⟩⟩) h := by
  intro e he
  obtain ⟨h1, h2⟩ := hS.gnews hi hR
  have hlen := hR.length
  simp only [aOp, he.opv hx]
  refine conv_str ?_ h1 h2 ht
  rcases hS.ok _ (List.mem_of_getElem? hi) with ⟨rfl, rfl⟩ | ⟨b, n, c, rfl, h3, h4, h5⟩
  · have : xs = [] := by
      cases xs with
      | nil => rfl
      | cons y ys => have : csz UInt8 = 1 := rfl
                     simp [this] at hlen
    subst this; exact ⟨none, 0, rfl⟩
  · have hn : n = xs.length := Nat.eq_of_mul_eq_mul_right (Cell.pos (α := UInt8)) (by show n * csz UInt8 = xs.length * csz UInt8; omega)
    subst hn; exact ⟨_, _, rfl⟩
def idTy (P : Program) (s d : TypeId) : Bool := Nat.beq s d && (match P.underlying d with | some (.slice e) => u8Ty P e | _ => false)
theorem idTy_eq {s d : TypeId} (ht : idTy P s d = true) : s = d ∧ ∃ e, P.underlying d = some (.slice e) ∧ P.underlying e = some (.int .u8) := by
  unfold idTy at ht
  rw [Bool.and_eq_true] at ht
  refine ⟨Nat.eq_of_beq_eq_true ht.1, ?_⟩
  have h2 := ht.2
  split at h2
  · rename_i e he; exact ⟨e, he, u8Ty_eq h2⟩
  · cases h2
theorem o_convid {s d : TypeId} {x : Operand} {v : Value} {xs : List UInt8} {cells : List Value} {j : Nat} (hS : St h0 D Z0 Rv Z h L) (hi : L[j]? = some (.gs v cells (csz UInt8))) (hR : RCs Z cells xs) (hn : 0 < xs.length) (hx : opv l x = some v) (ht : idTy P s d = true) : OpTo P l (.convert s d x) h v h := by
  obtain ⟨rfl, e, h1, h2⟩ := idTy_eq ht
  have hlen := hR.length
  have e1 : csz UInt8 = 1 := rfl
  rw [e1] at hlen
  intro ev he
  rcases hS.ok _ (List.mem_of_getElem? hi) with ⟨rfl, rfl⟩ | ⟨b, n, c, rfl, h3, h4, h5⟩
  · simp at hlen; omega
  · rw [e1] at h3
    simp only [aOp, he.opv hx, aConvert, h1, h2]
    rw [if_pos ⟨trivial, by omega, by rw [h5]; rfl⟩]
end
section
variable {P : Program} {l : KL} {h : AH}
theorem c_sneq_T {t : TypeId} {a b : Str} (q : ¬ a = b) : aBin P .neq t (.string ⟨⟨a.b⟩⟩) (.string ⟨⟨b.b⟩⟩) = some (.bool true) := by
  have : a.b ≠ b.b := fun e => q (by cases a; cases b; simp_all)
  simp [aBin, aStr, ByteArray.toList_eq, this]
theorem c_sneq_F {t : TypeId} {a b : Str} (q : a = b) : aBin P .neq t (.string ⟨⟨a.b⟩⟩) (.string ⟨⟨b.b⟩⟩) = some (.bool false) := by subst q; simp [aBin, aStr]
def ssTy (P : Program) (s d : TypeId) : Bool := match P.underlying s, P.underlying d with | some _, some .string => true | _, _ => false
theorem o_convss {s d : TypeId} {x : Operand} {b : ByteArray} (hx : opv l x = some (.string b)) (ht : ssTy P s d = true) : OpTo P l (.convert s d x) h (.string b) h := by
  intro e he
  unfold ssTy at ht; split at ht
  · rename_i u hu hv
    simp only [aOp, he.opv hx, aConvert, hu, hv]
  · cases ht
end
section
variable {P : Program} {c : Code} {R : List COp} {k : Nat} {l : KL} {h : AH} {K : KL → AH → Prop} {N : KL → AH → Prop} {X : AEx → KL → AH → Prop}
theorem xq (m : Nat) (l' : KL) (hk : wpR P R (k + m) l' h K) (hr : (runP P (R.drop k) m l).map (fun q => pick q (l'.map Prod.fst)) = some l' := by kernel_rfl) : wpR P R k l h K := by
  obtain ⟨q, h1, h2⟩ := Option.map_eq_some_iff.1 hr
  exact r_run m h1 (r_forget _ h2 hk)
theorem xe (m : Nat) (l' : KL) (hk : K l' h) (hr : (runP P (R.drop k) m l).map (fun q => pick q (l'.map Prod.fst)) = some l' := by kernel_rfl) (ho : R.length = k + m := by kernel_rfl) : wpR P R k l h K := xq m l' (r_end ho hk) hr
theorem xf (l' : KL) (hk : K l' h) (hp : pick l (l'.map Prod.fst) = l' := by kernel_rfl) (ho : R.length = k := by kernel_rfl) : wpR P R k l h K := r_forget _ hp (r_end ho hk)
theorem sq (hw : W P (cL c) l h (fun l h => W P (cR c) l h N X) X) (hc : c = .seq (cL c) (cR c) := by kernel_rfl) : W P c l h N X := W_seq hc hw
theorem rg (R : List COp) (hw : wpR P R 0 l h N) (hc : regOf c = some R := by kernel_rfl) : W P c l h N X := W_region hc hw
def seqReg : Code → Option (List COp)
  | .seq a _ => regOf a
  | _ => none
theorem sr (R : List COp) (hw : wpR P R 0 l h (fun l h => W P (cR c) l h N X)) (hc : seqReg c = some R := by kernel_rfl) : W P c l h N X := by
  cases c with
  | seq a b => exact W_seq rfl (W_region hc hw)
  | _ => cases hc
def condTmp (t : Nat) : Code → Bool
  | .cond (.tmp u) _ _ => Nat.beq u t
  | _ => false
theorem cT (t : Nat) (hx : lk l t = some (.bool true)) (hw : W P (cL c) l h N X) (hc : condTmp t c = true := by kernel_rfl) : W P c l h N X := by
  cases c with
  | cond x a b =>
    cases x with
    | tmp u => have := Nat.eq_of_beq_eq_true hc; subst this; exact W_condT rfl hx rfl hw
    | _ => cases hc
  | _ => cases hc
theorem cF (t : Nat) (hx : lk l t = some (.bool false)) (hw : W P (cR c) l h N X) (hc : condTmp t c = true := by kernel_rfl) : W P c l h N X := by
  cases c with
  | cond x a b =>
    cases x with
    | tmp u => have := Nat.eq_of_beq_eq_true hc; subst this; exact W_condF rfl hx rfl hw
    | _ => cases hc
  | _ => cases hc
theorem kT (t : Nat) (hx : lk l t = some (.bool true)) (hw : N l h) (hc : condTmp t c = true := by kernel_rfl) (hs : cL c = .skip := by kernel_rfl) : W P c l h N X := cT t hx (W_skip hs hw) hc
theorem kF (t : Nat) (hx : lk l t = some (.bool false)) (hw : N l h) (hc : condTmp t c = true := by kernel_rfl) (hs : cR c = .skip := by kernel_rfl) : W P c l h N X := cF t hx (W_skip hs hw) hc
theorem bk (i : Nat) (hw : W P (cI c) l h N (blkX i N X)) (hc : c = .block i (cI c) := by kernel_rfl) : W P c l h N X := W_block hc hw
theorem sk (hn : N l h) (hc : c = .skip := by kernel_rfl) : W P c l h N X := W_skip hc hn
theorem xt (i : Nat) (hn : X (.exit i) l h) (hc : c = .exit i := by kernel_rfl) : W P c l h N X := W_exit hc hn
theorem rt (hn : X .ret l h) (hc : c = .ret := by kernel_rfl) : W P c l h N X := W_ret hc hn
theorem lp (ts : List Nat) (I : Nat → KL → AH → Prop) (m : Nat) (h0 : I m (pick l ts) h) (hI : ∀ m l h, I m l h → W P (cI c) l h (fun l' h' => ∃ k, k < m ∧ I k (pick l' ts) h') X) (hc : c = .loop (cI c) := by kernel_rfl) : W P c l h N X := W_loop ts I m hc h0 hI
end
section
variable {P : Program}
theorem aEq_agg' {d : Nat} {t : TypeId} {fs : Array Field} {xs ys : Array Value} (hu : P.underlying t = some (.struct fs)) (h2 : P.stoodInHeld t = false) : aEq P (d + 1) t (.agg xs) (.agg ys) = aEqFields P (aEq P d) fs.toList xs ys := by
  simp only [aEq, hu, h2, if_true]
theorem aEq_agg {t : TypeId} {fs : Array Field} {xs ys : Array Value} {w : Bool} (hu : P.underlying t = some (.struct fs)) (h2 : P.stoodInHeld t = false) (h3 : aEqFields P (aEq P 19) fs.toList xs ys = some w) : aEq P eqDepth t (.agg xs) (.agg ys) = some w :=
  (aEq_agg' (d := 19) hu h2).trans h3
theorem eq_agg {t : TypeId} {fs : Array Field} {xs ys : Array Value} {w : Bool} (hu : P.underlying t = some (.struct fs)) (h1 : P.eqGuardType P.depth t = false) (h2 : P.stoodInHeld t = false) (h3 : aEqFields P (aEq P 19) fs.toList xs ys = some w) :
    aBin P .eql t (.agg xs) (.agg ys) = some (.bool w) := by
  simp only [aBin, aEqTop, h1, if_true, aEq_agg hu h2 h3, Option.map_some]
theorem ne_agg {t : TypeId} {fs : Array Field} {xs ys : Array Value} {w : Bool} (hu : P.underlying t = some (.struct fs)) (h1 : P.eqGuardType P.depth t = false) (h2 : P.stoodInHeld t = false) (h3 : aEqFields P (aEq P 19) fs.toList xs ys = some w) :
    aBin P .neq t (.agg xs) (.agg ys) = some (.bool (!w)) := by
  simp only [aBin, aEqTop, h1, if_true, aEq_agg hu h2 h3, Option.map_some]
theorem fld_T {eq : TypeId → Value → Value → Option Bool} {f : Field} {fs : List Field} {xs ys : Array Value} {a b : Value} {r : Option Bool} (hn : f.name ≠ "_") (ha : aPart P f.type xs f.offset = some a) (hb : aPart P f.type ys f.offset = some b) (he : eq f.type a b = some true) (hr : aEqFields P eq fs xs ys = r) : aEqFields P eq (f :: fs) xs ys = r := by
  simp only [aEqFields, if_pos hn, ha, hb, he, hr]
theorem fld_F {eq : TypeId → Value → Value → Option Bool} {f : Field} {fs : List Field} {xs ys : Array Value} {a b : Value} (hn : f.name ≠ "_") (ha : aPart P f.type xs f.offset = some a) (hb : aPart P f.type ys f.offset = some b) (he : eq f.type a b = some false) : aEqFields P eq (f :: fs) xs ys = some false := by
  simp only [aEqFields, if_pos hn, ha, hb, he]
theorem eqf_int {t : TypeId} {k : IntKind} {a b : Int} {d : Nat} (hu : ∃ k', P.underlying t = some (.int k')) : aEq P (d + 1) t (.int k a) (.int k b) = some (a == b) := by
  obtain ⟨k', hu⟩ := hu; simp only [aEq, hu, if_true]
theorem eqf_bool {t : TypeId} {a b : Bool} {d : Nat} (hu : P.underlying t = some .bool) : aEq P (d + 1) t (.bool a) (.bool b) = some (a == b) := by simp only [aEq, hu]
theorem ba_beq (a b : List UInt8) : ((ByteArray.mk ⟨a⟩) == (ByteArray.mk ⟨b⟩)) = decide (a = b) := by
  show ((⟨a⟩ : Array UInt8) == ⟨b⟩) = _
  by_cases h : a = b
  · subst h; simp
  · simp [h]
theorem eqf_str {t : TypeId} {a b : Str} {d : Nat} (hu : P.underlying t = some .string) : aEq P (d + 1) t (.string ⟨⟨a.b⟩⟩) (.string ⟨⟨b.b⟩⟩) = some (decide (a = b)) := by
  simp only [aEq, hu, ba_beq]
  congr 1
  cases a; cases b; simp
end
section
variable {P : Program} {C c : Code} {l l' : KL} {h : AH} {N : KL → AH → Prop} {X X' : AEx → KL → AH → Prop}
def scX (i : Nat) (Q : KL → AH → Prop) (X : AEx → KL → AH → Prop) : AEx → KL → AH → Prop := fun x l h => match x with | .goto j => j = i ∧ Q l h | x => X x l h
theorem scX_hit {i : Nat} {Q : KL → AH → Prop} (q : Q l h) : scX i Q X (.goto i) l h := ⟨rfl, q⟩
theorem scX_exit {i j : Nat} {Q : KL → AH → Prop} (hn : X (.exit j) l h) : scX i Q X (.exit j) l h := hn
theorem scX_ret {i : Nat} {Q : KL → AH → Prop} (hn : X .ret l h) : scX i Q X .ret l h := hn
def jmpX (P : Program) (C : Code) (N : KL → AH → Prop) (X : AEx → KL → AH → Prop) : AEx → KL → AH → Prop := fun x l h => match x with | .goto i => (match findLabel C i with | some rest => WJ P C rest l h N X | none => X (.goto i) l h) | x => X x l h
theorem jmpX_exit {j : Nat} (hn : X (.exit j) l h) : jmpX P C N X (.exit j) l h := hn
theorem jmpX_ret (hn : X .ret l h) : jmpX P C N X .ret l h := hn
theorem W_mono {N' : KL → AH → Prop} (hw : W P c l h N X) (hN : ∀ l h, N l h → N' l h) (hX : ∀ x l h, X x l h → X' x l h) : W P c l h N' X' := by
  intro e he
  refine Am.wp_mono (hw e he) ?_ ?_
  · rintro e' h' ⟨l', q1, q2⟩; exact ⟨l', q1, hN _ _ q2⟩
  · rintro x e' h' ⟨l', q1, q2⟩; exact ⟨l', q1, hX _ _ _ q2⟩
theorem W_scopeJ (hc : c = .scope (cI c)) (hw : W P (cI c) l h N (jmpX P (cI c) N X)) : W P c l h N X := W_scope hc (WJ_step hw)
theorem W_labelLoop {i m : Nat} (ts : List Nat) (I : Nat → KL → AH → Prop) (hc : c = .seq (.label i) (cR c)) (hl : findLabel C i = some (.seq .skip (cR c))) (h0 : I m (pick l ts) h)
    (hI : ∀ m l h, I m l h → W P (cR c) l h N (scX i (fun l' h' => ∃ k, k < m ∧ I k (pick l' ts) h') X)) : W P c l h N (jmpX P C N X) := by
  have main : ∀ m l h, I m (pick l ts) h → W P (cR c) l h N (jmpX P C N X) := by
    intro m
    induction m using Nat.strongRecOn with
    | ind m ih =>
      intro l h hi
      refine W_forget ts rfl (W_mono (hI m _ h hi) (fun _ _ q => q) ?_)
      intro x l' h' hx
      cases x with
      | goto j =>
        obtain ⟨rfl, k, hk, hk2⟩ := hx
        simp only [jmpX, hl]
        exact WJ_step (W_seq rfl (W_skip rfl (ih k hk l' h' hk2)))
      | normal => exact hx
      | exit j => exact hx
      | ret => exact hx
  refine W_seq (by rw [hc]; rfl) ?_
  have : cL c = .label i := by rw [hc]; rfl
  rw [this]
  exact W_label rfl (main m l h h0)
end
end Go.Proofs.Ytahcngeimlkcgaa.Sy
