/- The abstract machine: how its values and its heap stand for the model's; operations without memory. -/
import Derived.Test.YtahcngeimlkcgaaAmB
namespace Go.Proofs.Ytahcngeimlkcgaa.Am
open Go
set_option linter.unusedVariables false
set_option linter.unusedSectionVars false
set_option linter.unusedSimpArgs false
structure Place where
  blk : Nat
  off : Nat
  sz : Nat
  ext : Nat
abbrev Rho := Nat → Option Place
class Marks where
  mark : Nat → Int
variable [Marks]
def AR (ρ : Rho) (a a' : Addr) : Prop := a.spot = none ∧ ∃ p, ρ a.block = some p ∧ a' = ⟨p.blk, p.off + a.off, none⟩
inductive VR (ρ : Rho) : Value → Value → Prop
  | bool (b : Bool) : VR ρ (.bool b) (.bool b)
  | int (k : IntKind) (n : Int) : VR ρ (.int k n) (.int k n)
  | float (k : FloatKind) (n : Nat) : VR ρ (.float k n) (.int .i64 (Marks.mark n))
  | string (s : ByteArray) : VR ρ (.string s) (.string s)
  | nilFunc : VR ρ .nilFunc .nilFunc
  | nilIface : VR ρ .nilIface .nilIface
  | ptr0 : VR ρ (.pointer none) (.pointer none)
  | ptr {a a' : Addr} (h : AR ρ a a') : VR ρ (.pointer (some a)) (.pointer (some a'))
  | sl0 {n c c' : Nat} (h1 : c = n → c' = n) (h2 : n ≤ c') : VR ρ (.slice none n c) (.slice none n c')
  | sl {a a' : Addr} {n c c' : Nat} (h1 : c = n → c' = n) (h2 : n ≤ c') (h3 : 0 < n → AR ρ a a')
      (h4 : c = n + 1 → AR ρ a a' ∧ ∃ p, ρ a.block = some p ∧ a.off + c' * p.sz ≤ p.ext) : VR ρ (.slice (some a) n c) (.slice (some a') n c')
  | func (f : FuncId) {fi fi' ca ca' : Array Value} (h1 : fi.size = fi'.size) (h2 : ∀ (i : Nat) v v', fi[i]? = some v → fi'[i]? = some v' → VR ρ v v')
      (h3 : ca.size = ca'.size) (h4 : ∀ (i : Nat) v v', ca[i]? = some v → ca'[i]? = some v' → VR ρ v v') : VR ρ (.func (.func f) fi ca) (.func (.func f) fi' ca')
  | iface (t : TypeId) {v v' : Value} (h : VR ρ v v') : VR ρ (.iface t v) (.iface t v')
  | agg {cs cs' : Array Value} (h1 : cs.size = cs'.size) (h2 : ∀ (i : Nat) v v', cs[i]? = some v → cs'[i]? = some v' → VR ρ v v') : VR ρ (.agg cs) (.agg cs')
  | tuple {cs cs' : Array Value} (h1 : cs.size = cs'.size) (h2 : ∀ (i : Nat) v v', cs[i]? = some v → cs'[i]? = some v' → VR ρ v v') : VR ρ (.tuple cs) (.tuple cs')
def LR (ρ : Rho) (l l' : List Value) : Prop := l.length = l'.length ∧ ∀ (i : Nat) v v', l[i]? = some v → l'[i]? = some v' → VR ρ v v'
def Rle (ρ ρ' : Rho) : Prop := ∀ b p, ρ b = some p → ρ' b = some p
theorem Rle.refl (ρ : Rho) : Rle ρ ρ := fun _ _ h => h
theorem Rle.trans {a b c : Rho} (h : Rle a b) (h' : Rle b c) : Rle a c := fun _ _ q => h' _ _ (h _ _ q)
theorem AR.mono {ρ ρ' : Rho} (hr : Rle ρ ρ') {a a' : Addr} (h : AR ρ a a') : AR ρ' a a' := by
  obtain ⟨h1, p, h2, h3⟩ := h
  exact ⟨h1, p, hr _ _ h2, h3⟩
theorem VR.mono {ρ ρ' : Rho} (hr : Rle ρ ρ') {v v' : Value} (h : VR ρ v v') : VR ρ' v v' := by
  induction h with
  | bool b => exact .bool b
  | int k n => exact .int k n
  | float k n => exact .float k n
  | string s => exact .string s
  | nilFunc => exact .nilFunc
  | nilIface => exact .nilIface
  | ptr0 => exact .ptr0
  | ptr h => exact .ptr (h.mono hr)
  | sl0 h1 h2 => exact .sl0 h1 h2
  | sl h1 h2 h3 h4 => exact .sl h1 h2 (fun h => (h3 h).mono hr) (fun h => by
      obtain ⟨q1, p, q2, q3⟩ := h4 h
      exact ⟨q1.mono hr, p, hr _ _ q2, q3⟩)
  | func f h1 _ h3 _ ih1 ih2 => exact .func f h1 ih1 h3 ih2
  | iface t _ ih => exact .iface t ih
  | agg h1 _ ih => exact .agg h1 ih
  | tuple h1 _ ih => exact .tuple h1 ih
theorem LR.mono {ρ ρ' : Rho} (hr : Rle ρ ρ') {l l' : List Value} (h : LR ρ l l') : LR ρ' l l' := ⟨h.1, fun i v v' a b => (h.2 i v v' a b).mono hr⟩
theorem LR.nil (ρ : Rho) : LR ρ [] [] := ⟨rfl, fun i v v' h => by simp at h⟩
theorem LR.cons {ρ : Rho} {v v' : Value} {l l' : List Value} (h : VR ρ v v') (hl : LR ρ l l') : LR ρ (v :: l) (v' :: l') :=
  ⟨by simp [hl.1], fun i u u' a b => by
    cases i with
    | zero => simp at a b; subst a; subst b; exact h
    | succ i => exact hl.2 i u u' (by simpa using a) (by simpa using b)⟩
theorem LR.head {ρ : Rho} {v v' : Value} {l l' : List Value} (h : LR ρ (v :: l) (v' :: l')) : VR ρ v v' := h.2 0 v v' (by simp) (by simp)
theorem LR.tail {ρ : Rho} {v v' : Value} {l l' : List Value} (h : LR ρ (v :: l) (v' :: l')) : LR ρ l l' :=
  ⟨by have := h.1; simpa using this, fun i u u' a b => h.2 (i + 1) u u' (by simpa using a) (by simpa using b)⟩
theorem LR.append {ρ : Rho} {a a' b b' : List Value} (h : LR ρ a a') (k : LR ρ b b') : LR ρ (a ++ b) (a' ++ b') := by
  refine ⟨by simp [h.1, k.1], fun i v v' p q => ?_⟩
  by_cases hi : i < a.length
  · rw [List.getElem?_append_left hi] at p
    rw [List.getElem?_append_left (by rw [← h.1]; exact hi)] at q
    exact h.2 i v v' p q
  · rw [List.getElem?_append_right (by omega)] at p
    rw [List.getElem?_append_right (by have := h.1; omega)] at q
    rw [← h.1] at q
    exact k.2 _ v v' p q
theorem LR.take {ρ : Rho} {a a' : List Value} (h : LR ρ a a') (n : Nat) : LR ρ (a.take n) (a'.take n) := by
  refine ⟨by simp [h.1], fun i v v' p q => ?_⟩
  rw [List.getElem?_take] at p q
  split at p
  · rename_i hi; rw [if_pos hi] at q; exact h.2 i v v' p q
  · cases p
theorem LR.drop {ρ : Rho} {a a' : List Value} (h : LR ρ a a') (n : Nat) : LR ρ (a.drop n) (a'.drop n) := by
  refine ⟨by simp [h.1], fun i v v' p q => ?_⟩
  rw [List.getElem?_drop] at p q
  exact h.2 _ v v' p q
theorem LR.get {ρ : Rho} {a a' : List Value} (h : LR ρ a a') {i : Nat} {v : Value} (hv : a[i]? = some v) : ∃ v', a'[i]? = some v' ∧ VR ρ v v' := by
  have hi : i < a'.length := by rw [← h.1]; exact (List.getElem?_eq_some_iff.1 hv).1
  exact ⟨a'[i], List.getElem?_eq_getElem hi, h.2 i v _ hv (List.getElem?_eq_getElem hi)⟩
theorem LR.of_arr {ρ : Rho} {cs cs' : Array Value} (h1 : cs.size = cs'.size) (h2 : ∀ (i : Nat) v v', cs[i]? = some v → cs'[i]? = some v' → VR ρ v v') : LR ρ cs.toList cs'.toList :=
  ⟨by simpa using h1, fun i v v' a b => h2 i v v' (by simpa using a) (by simpa using b)⟩
theorem LR.to_agg {ρ : Rho} {l l' : List Value} (h : LR ρ l l') : VR ρ (.agg l.toArray) (.agg l'.toArray) := .agg (by simpa using h.1) (fun i v v' a b => h.2 i v v' (by simpa using a) (by simpa using b))
theorem LR.to_tuple {ρ : Rho} {l l' : List Value} (h : LR ρ l l') : VR ρ (.tuple l.toArray) (.tuple l'.toArray) := .tuple (by simpa using h.1) (fun i v v' a b => h.2 i v v' (by simpa using a) (by simpa using b))
theorem VR.undef (ρ : Rho) : VR ρ undef undef := .tuple rfl (fun i v v' h => by simp at h)
theorem oneClean_VR (ρ : Rho) {v : Value} (h : oneClean v = true) : VR ρ v v := by
  cases v <;> simp [oneClean] at h <;> try constructor
  case pointer a => cases a <;> simp at h; exact .ptr0
  case slice a n c =>
    cases a with
    | none => exact .sl0 (fun e => e) (by simpa using h)
    | some a => simp at h
theorem clean_list (ρ : Rho) {l : List Value} (h : ∀ v ∈ l, VR ρ v v) : LR ρ l l :=
  ⟨rfl, fun i v v' a b => by rw [a] at b; cases b; exact h v (List.mem_of_getElem? a)⟩
theorem clean1_VR (ρ : Rho) {v : Value} (h : clean1 v = true) : VR ρ v v := by
  cases v
  case agg cs =>
    simp only [clean1, List.all_eq_true] at h
    have := LR.to_agg (clean_list ρ fun v hv => oneClean_VR ρ (h v hv))
    simpa using this
  all_goals exact oneClean_VR ρ h
theorem clean_VR (ρ : Rho) {v : Value} (h : clean v = true) : VR ρ v v := by
  cases v
  case tuple cs =>
    simp only [clean, List.all_eq_true] at h
    have := LR.to_tuple (clean_list ρ fun v hv => clean1_VR ρ (h v hv))
    simpa using this
  case iface t v => exact .iface t (clean1_VR ρ h)
  case func fn fi ca =>
    cases fn <;> simp [clean, clean1, oneClean] at h
    obtain ⟨h1, h2⟩ := h
    subst h1; subst h2
    exact .func _ rfl (fun i v v' h => by simp at h) rfl (fun i v v' h => by simp at h)
  all_goals exact clean1_VR ρ h
theorem VR.oneCell {ρ : Rho} {v v' : Value} (h : VR ρ v v') : v'.oneCell' = v.oneCell' := by cases h <;> rfl
theorem VR.cells {ρ : Rho} {v v' : Value} (h : VR ρ v v') : LR ρ v.cells.toList v'.cells.toList := by
  cases h <;> first
    | (rename_i h1 h2; exact LR.of_arr h1 h2)
    | (simp only [Value.cells]; exact LR.cons (by constructor <;> assumption) (LR.nil _))
section
variable {P : Program}
theorem run_und {t : TypeId} {d : TypeDesc} (h : P.underlying t = some d) (w : World) : (underlying t).run P w = .ok d w := by simp [underlying, h]
theorem info_of_size {t : TypeId} {s : Nat} (h : tsize P t = some s) : ∃ i, P.info? t = some i ∧ i.size = s := by
  unfold tsize at h
  cases hi : P.info? t with
  | none => rw [hi] at h; cases h
  | some i => rw [hi] at h; exact ⟨i, rfl, by simpa using h⟩
theorem run_size {t : TypeId} {s : Nat} (h : tsize P t = some s) (w : World) : (sizeOf t).run P w = .ok s w := by
  obtain ⟨i, hi, rfl⟩ := info_of_size h
  simp [sizeOf, typeInfo, hi]
theorem run_zero {t : TypeId} {z : Value} (h : tzero P t = some z) (w : World) : (zeroValue t).run P w = .ok z w := by
  unfold tzero at h
  cases hi : P.info? t with
  | none => rw [hi] at h; cases h
  | some i => rw [hi] at h; simp at h; simp [zeroValue, typeInfo, hi, h]
theorem run_isAgg' {t : TypeId} {d : TypeDesc} (h : P.underlying t = some d) (w : World) : (isAgg t).run P w = .ok (aggD d) w := by
  simp only [isAgg, Sem.run_bind, run_und h, Result.andThen_ok]
  cases d <;> rfl
theorem add_AR {ρ : Rho} {a a' : Addr} (h : AR ρ a a') (n : Nat) : AR ρ (a.add n) (a'.add n) := by
  obtain ⟨h1, p, h2, rfl⟩ := h
  unfold Addr.add
  by_cases hn : n = 0
  · simp only [hn, if_true]; exact ⟨h1, p, h2, rfl⟩
  · simp only [hn, if_false]; exact ⟨rfl, p, h2, by simp [Nat.add_assoc]⟩
theorem aPart_run {ρ : Rho} {t : TypeId} {cs cs' : Array Value} {off : Nat} {v : Value} (h : aPart P t cs off = some v) (hl : LR ρ cs.toList cs'.toList) :
    ∃ v', VR ρ v v' ∧ ∀ w, (part t cs' off).run P w = .ok v' w := by
  unfold aPart at h
  cases hd : P.underlying t with
  | none => rw [hd] at h; cases h
  | some d =>
    rw [hd] at h
    simp only [Option.bind_some] at h
    by_cases ha : aggD d = true
    · rw [if_pos ha] at h
      cases hs : tsize P t with
      | none => rw [hs] at h; cases h
      | some s =>
        rw [hs] at h
        simp at h
        subst h
        refine ⟨.agg (cs'.extract off (off + s)), ?_, fun w => ?_⟩
        · have he : ∀ c : Array Value, c.extract off (off + s) = ((c.toList.drop off).take s).toArray := fun c => by apply Array.ext'; simp
          rw [he, he]
          exact LR.to_agg ((hl.drop off).take s)
        · simp [part, run_isAgg' hd, ha, run_size hs]
    · rw [if_neg ha] at h
      obtain ⟨v', hv', hr⟩ := hl.get (show cs.toList[off]? = some v by simpa using h)
      refine ⟨v', hr, fun w => ?_⟩
      have hv'' : cs'[off]? = some v' := by simpa using hv'
      simp [part, run_isAgg' hd, ha, hv'']
theorem forIn_eq (D : Nat) (xs' ys' : Array Value) (eqs : TypeId → Value → Value → Option Bool)
    (heq : ∀ t x y b, eqs t x y = some b → ∀ {ρ : Rho} {x' y' : Value}, VR ρ x x' → VR ρ y y' → ∀ w, (Op.equalIn D t x' y').run P w = .ok b w)
    {ρ : Rho} {xs ys : Array Value} (hx : LR ρ xs.toList xs'.toList) (hy : LR ρ ys.toList ys'.toList) :
    ∀ (fs : List Field) (b : Bool), aEqFields P eqs fs xs ys = some b → ∀ w,
      (do for f in fs do
            if f.name ≠ "_" then
              if !(← Op.equalIn D f.type (← part f.type xs' f.offset) (← part f.type ys' f.offset)) then return false
          pure true : Sem Bool).run P w = .ok b w := by
  intro fs
  induction fs with
  | nil => intro b h w; simp [aEqFields] at h; subst h; simp
  | cons f fs ih =>
    intro b h w
    simp only [aEqFields] at h
    by_cases hn : f.name ≠ "_"
    · rw [if_pos hn] at h
      cases ha : aPart P f.type xs f.offset with
      | none => rw [ha] at h; cases h
      | some a =>
        cases hb : aPart P f.type ys f.offset with
        | none => rw [ha, hb] at h; cases h
        | some c =>
          rw [ha, hb] at h
          simp only at h
          obtain ⟨a', ra, ha'⟩ := aPart_run ha hx
          obtain ⟨c', rc, hc'⟩ := aPart_run hb hy
          cases he : eqs f.type a c with
          | none => rw [he] at h; cases h
          | some e =>
            rw [he] at h
            have hrun := heq _ _ _ _ he ra rc w
            cases e with
            | true =>
              have := ih b h w
              simp only [List.forIn_cons, Sem.run_bind, hn, ne_eq, not_false_eq_true, if_true, ha', hc', Result.andThen_ok, hrun, Sem.run_pure] at this ⊢
              simpa using this
            | false =>
              simp only at h
              cases h
              simp only [List.forIn_cons, Sem.run_bind, hn, ne_eq, not_false_eq_true, if_true, ha', hc', Result.andThen_ok, hrun, Sem.run_pure]
              simp
    · rw [if_neg hn] at h
      have := ih b h w
      simp only [List.forIn_cons, Sem.run_bind, hn, ne_eq, if_false, Sem.run_pure, Result.andThen_ok] at this ⊢
      simpa using this
theorem aEq_run : ∀ (d : Nat) (t : TypeId) (x y : Value) (b : Bool), aEq P d t x y = some b → ∀ (D : Nat), d ≤ D → ∀ {ρ : Rho} {x' y' : Value}, VR ρ x x' → VR ρ y y' → ∀ w, (Op.equalIn D t x' y').run P w = .ok b w := by
  intro d
  induction d with
  | zero => intro t x y b h; simp [aEq] at h
  | succ d ih =>
    intro t x y b h D hD ρ x' y' hx hy w
    obtain ⟨D, rfl⟩ : ∃ m, D = m + 1 := ⟨D - 1, by omega⟩
    cases hu : P.underlying t with
    | none => simp [aEq, hu] at h
    | some u =>
      cases u <;> simp only [aEq, hu] at h <;> try (exact absurd h (by simp; done))
      case bool => cases hx <;> first | (simp at h; done) | (cases hy <;> first | (simp at h; done) | (simp at h; simp [Op.equalIn, run_und hu, h]))
      case int k => cases hx <;> first | (simp at h; done) | (cases hy <;> first | (simp at h; done) | (simp at h; simp [Op.equalIn, run_und hu, h]))
      case string => cases hx <;> first | (simp at h; done) | (cases hy <;> first | (simp at h; done) | (simp at h; simp [Op.equalIn, run_und hu, h]))
      case pointer e => cases hx <;> first | (simp at h; done) | (cases hy <;> first | (simp at h; done) | (simp at h; simp [Op.equalIn, run_und hu, h]))
      case interface ms => cases hx <;> first | (simp at h; done) | (cases hy <;> first | (simp at h; done) | (simp at h; simp [Op.equalIn, run_und hu, h]))
      case slice e => cases hx <;> first | (simp at h; done) | (cases hy <;> first | (simp at h; done) | (simp at h; simp [Op.equalIn, run_und hu, h]))
      case func a1 a2 a3 => cases hx <;> first | (simp at h; done) | (cases hy <;> first | (simp at h; done) | (simp at h; simp [Op.equalIn, run_und hu, h]))
      case struct fields =>
        cases hx <;> first | (simp at h; done) | skip
        cases hy <;> first | (simp at h; done) | skip
        rename_i xs xs' hx1 hx2 ys ys' hy1 hy2
        simp only at h
        split at h
        · rename_i hst
          have := forIn_eq (P := P) D xs' ys' (aEq P d) (fun t x y b he {ρ} {x'} {y'} r1 r2 w => ih t x y b he D (by omega) r1 r2 w) (LR.of_arr hx1 hx2) (LR.of_arr hy1 hy2) fields.toList b h w
          simp only [Op.equalIn, Sem.run_bind, run_und hu, Result.andThen_ok, run_program, hst, Bool.false_eq_true, if_false]
          simpa using this
        · cases h
theorem stringOp_run (op : BinOp) {a b : ByteArray} {v : Value} (h : aStr op a b = some v) (w : World) : (Op.stringOp op a b).run P w = .ok v w := by
  cases op <;> simp [aStr] at h
  case add => obtain ⟨h1, rfl⟩ := h; simp [Op.stringOp, h1]
  case eql => subst h; simp [Op.stringOp]
  case neq => subst h; simp [Op.stringOp]
theorem aStr_plain {op : BinOp} {a b : ByteArray} {v : Value} (h : aStr op a b = some v) (ρ : Rho) : VR ρ v v := by
  cases op <;> simp [aStr] at h
  case add => obtain ⟨h1, rfl⟩ := h; exact .string _
  case eql => subst h; exact .bool _
  case neq => subst h; exact .bool _
theorem intOp_run (t : TypeId) (op : BinOp) (k : IntKind) {a b : Int} {v : Value} (h : aInt op k a b = some v) (w : World) : (binOp op t (.int k a) (.int k b)).run P w = .ok v w := by
  cases op <;> simp [aInt] at h
  all_goals first
    | (subst h; simp [binOp, Op.intArith, Op.intCmp, Op.intBits]; done)
    | (obtain ⟨h1, rfl⟩ := h; simp [binOp, Op.intDiv, h1])
theorem aInt_plain {op : BinOp} {k : IntKind} {a b : Int} {v : Value} (h : aInt op k a b = some v) (ρ : Rho) : VR ρ v v := by
  cases op <;> simp [aInt] at h
  all_goals first
    | (subst h; first | exact .int _ _ | exact .bool _)
    | (obtain ⟨h1, rfl⟩ := h; first | exact .int _ _ | exact .bool _)
def binRun (op : BinOp) (t : TypeId) (xo yo : Operand) (x y : Value) : Sem Value := do eqGuard op t xo yo x y; binOp op t x y
theorem aEqTop_run {t : TypeId} {x y : Value} {b : Bool} (h : aEqTop P t x y = some b) {ρ : Rho} {x' y' : Value} (hx : VR ρ x x') (hy : VR ρ y y') (op : BinOp) (hop : op = .eql ∨ op = .neq) (xo yo : Operand) (w : World) :
    (eqGuard op t xo yo x' y').run P w = .ok () w ∧ (Op.equal t x' y').run P w = .ok b w := by
  have hag : ∀ cs ds, x' = .agg cs → y' = .agg ds → P.eqGuardType P.depth t = false := by
    intro cs ds hc hd
    subst hc; subst hd
    cases hx; cases hy
    simp only [aEqTop] at h
    split at h
    · assumption
    · cases h
  have hni : ¬ (x' = .nilIface ∧ y' = .nilIface) := by
    rintro ⟨rfl, rfl⟩
    cases hx; cases hy
    simp [aEqTop] at h
  have he : aEq P eqDepth t x y = some b := by
    unfold aEqTop at h
    split at h
    · cases h
    · split at h
      · exact h
      · cases h
    · exact h
  refine ⟨?_, aEq_run _ _ _ _ _ he _ (by decide) hx hy w⟩
  have hne : (!(match op with | .eql | .neq => true | _ => false)) = false := by rcases hop with rfl | rfl <;> rfl
  unfold eqGuard
  rcases hop with rfl | rfl
  all_goals
    simp only [Bool.not_true, Bool.false_eq_true, if_false]
    split
    · exact absurd ⟨rfl, rfl⟩ hni
    · rename_i cs ds
      have := hag cs ds rfl rfl
      simp [this]
    · rfl
theorem aEq_float (d : Nat) (t : TypeId) (k : FloatKind) (a : Nat) (y : Value) : aEq P d t (.float k a) y = none := by
  cases d with
  | zero => rfl
  | succ d => simp only [aEq]; cases P.underlying t with
    | none => rfl
    | some u => cases u <;> rfl
theorem aEq_float' (d : Nat) (t : TypeId) (k : FloatKind) (a : Nat) (x : Value) : aEq P d t x (.float k a) = none := by
  cases d with
  | zero => rfl
  | succ d => simp only [aEq]; cases P.underlying t with
    | none => rfl
    | some u => cases u <;> cases x <;> first | rfl | (rename_i o; cases o <;> rfl) | (rename_i o _ _; cases o <;> rfl)
theorem aBin_float {op : BinOp} {t : TypeId} {x y v : Value} (h : aBin P op t x y = some v) : (∀ k n, x ≠ .float k n) ∧ ∀ k n, y ≠ .float k n := by
  refine ⟨fun k n e => ?_, fun k n e => ?_⟩
  · subst e
    have : aEqTop P t (.float k n) y = none := by simp only [aEqTop, aEq_float]
    simp only [aBin, this] at h
    cases op <;> simp at h
  · subst e
    have : aEqTop P t x (.float k n) = none := by simp only [aEqTop, aEq_float']
    simp only [aBin, this] at h
    cases op <;> simp at h
theorem eql_form {t : TypeId} {x y : Value} {b : Bool} (h : aEqTop P t x y = some b) {ρ : Rho} {x' y' : Value} (hx : VR ρ x x') (hy : VR ρ y y') (h1 : ¬ ∃ k a k' b, x' = .int k a ∧ y' = .int k' b) (h2 : ¬ ∃ a b, x' = .string a ∧ y' = .string b) :
    binOp .eql t x' y' = (do pure (.bool (← Op.equal t x' y'))) ∧ binOp .neq t x' y' = (do pure (.bool (!(← Op.equal t x' y')))) := by
  cases hx <;> cases hy <;> first
    | exact ⟨rfl, rfl⟩
    | exact absurd ⟨_, _, _, _, rfl, rfl⟩ h1
    | exact absurd ⟨_, _, rfl, rfl⟩ h2
    | (exfalso; simp only [aEqTop, aEq_float, aEq_float'] at h; cases h)
theorem aBin_run {op : BinOp} {t : TypeId} {x y v : Value} (h : aBin P op t x y = some v) {ρ : Rho} {x' y' : Value} (hx : VR ρ x x') (hy : VR ρ y y') (xo yo : Operand) :
    VR ρ v v ∧ ∀ w, (binRun op t xo yo x' y').run P w = .ok v w := by
  obtain ⟨hf1, hf2⟩ := aBin_float h
  by_cases hint : ∃ k a k' b, x = .int k a ∧ y = .int k' b
  · obtain ⟨k, a, k', b, rfl, rfl⟩ := hint
    cases hx; cases hy
    have hg : ∀ w, (eqGuard op t xo yo (.int k a) (.int k' b)).run P w = .ok () w := by
      intro w; unfold eqGuard; split <;> simp
    simp only [aBin] at h
    split at h
    · split at h
      · cases h
      · rename_i hb; simp at h; subst h
        exact ⟨.int _ _, fun w => by simp [binRun, hg, binOp, Op.shift, hb]⟩
    · split at h
      · cases h
      · rename_i hb; simp at h; subst h
        exact ⟨.int _ _, fun w => by simp [binRun, hg, binOp, Op.shift, hb]⟩
    · split at h
      · rename_i hk; subst hk
        exact ⟨aInt_plain h ρ, fun w => by simp [binRun, hg, intOp_run t op k h w]⟩
      · cases h
  by_cases hstr : ∃ a b, x = .string a ∧ y = .string b
  · obtain ⟨a, b, rfl, rfl⟩ := hstr
    cases hx; cases hy
    have hg : ∀ w, (eqGuard op t xo yo (.string a) (.string b)).run P w = .ok () w := by
      intro w; unfold eqGuard; split <;> simp
    simp only [aBin] at h
    refine ⟨aStr_plain h ρ, fun w => ?_⟩
    have := stringOp_run (P := P) op h w
    cases op <;> simp [aStr] at h <;> simp [binRun, hg, binOp, this]
  have hx2 : ¬ ∃ k a k' b, x' = .int k a ∧ y' = .int k' b := by
    rintro ⟨k, a, k', b, rfl, rfl⟩
    cases hx with
    | float => exact hf1 _ _ rfl
    | int =>
      cases hy with
      | float => exact hf2 _ _ rfl
      | int => exact hint ⟨_, _, _, _, rfl, rfl⟩
  have hy2 : ¬ ∃ a b, x' = .string a ∧ y' = .string b := by
    rintro ⟨a, b, rfl, rfl⟩; cases hx; cases hy; exact hstr ⟨_, _, rfl, rfl⟩
  unfold aBin at h
  split at h
  · exact absurd ⟨_, _, _, _, rfl, rfl⟩ hint
  · exact absurd ⟨_, _, rfl, rfl⟩ hstr
  · split at h
    · cases hb : aEqTop P t x y with
      | none => rw [hb] at h; cases h
      | some b =>
        rw [hb] at h; simp at h; subst h
        refine ⟨.bool _, fun w => ?_⟩
        obtain ⟨q1, q2⟩ := aEqTop_run hb hx hy .eql (.inl rfl) xo yo w
        simp [binRun, q1, (eql_form hb hx hy hx2 hy2).1, q2]
    · cases hb : aEqTop P t x y with
      | none => rw [hb] at h; cases h
      | some b =>
        rw [hb] at h; simp at h; subst h
        refine ⟨.bool _, fun w => ?_⟩
        obtain ⟨q1, q2⟩ := aEqTop_run hb hx hy .neq (.inr rfl) xo yo w
        simp [binRun, q1, (eql_form hb hx hy hx2 hy2).2, q2]
    · cases h
end
end Go.Proofs.Ytahcngeimlkcgaa.Am
