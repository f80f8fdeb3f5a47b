/- Steps: what a printed walk uses besides: decisions, comparisons, numbers, texts; plain cells. -/
import Derived.Test.YtahcngeimlkcgaaSyD
import Derived.Laws.Strings
namespace Go.Proofs.Ytahcngeimlkcgaa.Sy
open Go Am
open Cell (rc)
set_option linter.unusedVariables false
set_option linter.unusedSectionVars false
set_option linter.unusedSimpArgs false
theorem ifs {α : Type} {p : Prop} [Decidable p] {a b : Option α} {r : α} (h : (if p then a else b) = some r) : (p ∧ a = some r) ∨ (¬ p ∧ b = some r) := by
 by_cases hp : p
 ·rw [if_pos hp] at h; exact .inl ⟨hp, h⟩
 ·rw [if_neg hp] at h; exact .inr ⟨hp, h⟩
theorem chk {α : Type} {p : Prop} [Decidable p] {a : Option α} {r : α} (h : (if p then a else none) = some r) : p ∧ a = some r := by
 by_cases hp : p
 ·rw [if_pos hp] at h; exact ⟨hp, h⟩
 ·rw [if_neg hp] at h; cases h
theorem obind {α β : Type} {x : Option α} {f : α → Option β} {r : β} (h : x.bind f = some r) : ∃ a, x = some a ∧ f a = some r := Option.bind_eq_some_iff.1 h
abbrev w64 (x : Int) : Int := IntKind.i64.wrap x
abbrev w8 (x : Int) : Int := IntKind.u8.wrap x
theorem w64_eq {x : Int} (h0 : -9223372036854775808 ≤ x) (h1 : x < 9223372036854775808) : w64 x = x := by
 unfold w64 IntKind.wrap
 have hb : (2 : Int) ^ IntKind.i64.bits = 18446744073709551616 := by decide
 have hb1 : (2 : Int) ^ (IntKind.i64.bits - 1) = 9223372036854775808 := by decide
 have hs : IntKind.i64.signed = true := rfl
 simp only [hb, hb1, hs, Bool.true_and, decide_eq_true_eq]
 split <;> omega
abbrev imax (x y : Int) : Int := if y > x then y else x
abbrev imin (x y : Int) : Int := if y < x then y else x
structure Str where
 b : List UInt8
 deriving DecidableEq, Inhabited
section
variable {P : Program} {l : KL} {h h' : AH} {t t2 : TypeId} {x y : Operand} {k : IntKind} {a b : Int} {o : BinOp} {w : Bool} {u v : Value}
theorem o_cmp (hx : opv l x = some u) (hy : opv l y = some v) (hv : aBin P o t u v = some (.bool w)) : OpTo P l (.binOp o t x y t2) h (.bool w) h := by
 intro e he
 simp only [aOp, he.opv hx, he.opv hy, hv, Option.map_some]
theorem c_lss_T (q : a < b) : aBin P .lss t (.int k a) (.int k b) = some (.bool true) := by simp [aBin, aInt, q]
theorem c_lss_F (q : ¬ a < b) : aBin P .lss t (.int k a) (.int k b) = some (.bool false) := by simp [aBin, aInt]; omega
theorem c_leq_T (q : a ≤ b) : aBin P .leq t (.int k a) (.int k b) = some (.bool true) := by simp [aBin, aInt, q]
theorem c_leq_F (q : ¬ a ≤ b) : aBin P .leq t (.int k a) (.int k b) = some (.bool false) := by simp [aBin, aInt]; omega
theorem c_gtr_T (q : b < a) : aBin P .gtr t (.int k a) (.int k b) = some (.bool true) := by simp [aBin, aInt, q]
theorem c_gtr_F (q : ¬ b < a) : aBin P .gtr t (.int k a) (.int k b) = some (.bool false) := by simp [aBin, aInt]; omega
theorem c_geq_T (q : b ≤ a) : aBin P .geq t (.int k a) (.int k b) = some (.bool true) := by simp [aBin, aInt, q]
theorem c_geq_F (q : ¬ b ≤ a) : aBin P .geq t (.int k a) (.int k b) = some (.bool false) := by simp [aBin, aInt]; omega
theorem c_eql_T (q : a = b) : aBin P .eql t (.int k a) (.int k b) = some (.bool true) := by simp [aBin, aInt, q]
theorem c_eql_F (q : ¬ a = b) : aBin P .eql t (.int k a) (.int k b) = some (.bool false) := by simp [aBin, aInt, q]
theorem c_neq_T (q : ¬ a = b) : aBin P .neq t (.int k a) (.int k b) = some (.bool true) := by simp [aBin, aInt, q]
theorem c_neq_F (q : a = b) : aBin P .neq t (.int k a) (.int k b) = some (.bool false) := by simp [aBin, aInt, q]
theorem c_seql_T {a b : Str} (q : a = b) : aBin P .eql t (.string ⟨⟨a.b⟩⟩) (.string ⟨⟨b.b⟩⟩) = some (.bool true) := by subst q; simp [aBin, aStr]
theorem c_seql_F {a b : Str} (q : ¬ a = b) : aBin P .eql t (.string ⟨⟨a.b⟩⟩) (.string ⟨⟨b.b⟩⟩) = some (.bool false) := by
 have : a.b ≠ b.b := fun e => q (by cases a; cases b; simp_all)
 simp [aBin, aStr, ByteArray.toList_eq, this]
end
section
variable {Z Z' : Zn}
instance : Cell Int where
 size := 1
 rc _ cs x := cs = [.int .i64 x]
 len h := by rw [h]; rfl
 mono _ h := h
 one h := by rw [h]; rfl
 pos := by decide
instance : Cell UInt8 where
 size := 1
 rc _ cs x := cs = [.int .u8 (x.toNat : Int)]
 len h := by rw [h]; rfl
 mono _ h := h
 one h := by rw [h]; rfl
 pos := by decide
instance : Cell Bool where
 size := 1
 rc _ cs x := cs = [.bool x]
 len h := by rw [h]; rfl
 mono _ h := h
 one h := by rw [h]; rfl
 pos := by decide
instance : Cell Str where
 size := 1
 rc _ cs x := cs = [.string ⟨⟨x.b⟩⟩]
 len h := by rw [h]; rfl
 mono _ h := h
 one h := by rw [h]; rfl
 pos := by decide
instance {α : Type} [Cell α] : Cell (List α) where
 size := 1
 rc Z cs xs := ∃ v, RS Z v xs ∧ cs = [v]
 len h := by obtain ⟨v, _, h⟩ := h; rw [h]; rfl
 mono hz h := by obtain ⟨v, h1, h2⟩ := h; exact ⟨v, h1.mono hz, h2⟩
 one h := by obtain ⟨v, ⟨a, c, h1, _⟩, h2⟩ := h; subst h2 h1; rfl
 pos := by decide
theorem pos_of {α : Type} {xs : List α} {i : Nat} {x : α} (h : xs[i]? = some x) : 0 < xs.length := by
 cases xs with
 | nil => simp at h
 | cons a l => simp
theorem nil_or {α : Type} [Cell α] {v : Value} {xs : List α} (hR : RS Z v xs) : (xs = [] ∧ ∃ c, v = .slice none 0 c) ∨ ∃ ad n c, v = .slice (some ad) n c := by
 obtain ⟨a, c, rfl, h2, h3⟩ := hR
 cases a with
 | none => subst h3; exact .inl ⟨rfl, c, rfl⟩
 | some a => exact .inr ⟨a, _, c, rfl⟩
theorem c_nilT {P : Program} {t : TypeId} {v : Value} (ht : ∃ e, P.underlying t = some (.slice e)) (hv : ∃ c, v = .slice none 0 c) : aBin P .eql t v (.slice none 0 0) = some (.bool true) := by
 obtain ⟨e, he⟩ := ht
 obtain ⟨c, rfl⟩ := hv
 simp only [aBin, aEqTop, eqDepth, aEq, he]; rfl
theorem c_nilF {P : Program} {t : TypeId} {v : Value} (ht : ∃ e, P.underlying t = some (.slice e)) (hv : ∃ ad n c, v = .slice (some ad) n c) : aBin P .eql t v (.slice none 0 0) = some (.bool false) := by
 obtain ⟨e, he⟩ := ht
 obtain ⟨ad, n, c, rfl⟩ := hv
 simp only [aBin, aEqTop, eqDepth, aEq, he]; rfl
theorem rc_Int {cs : List Value} {x : Int} (h : rc Z cs x) : cs = [.int .i64 x] := h
theorem rc_UInt8 {cs : List Value} {x : UInt8} (h : rc Z cs x) : cs = [.int .u8 (x.toNat : Int)] := h
theorem rc_Bool {cs : List Value} {x : Bool} (h : rc Z cs x) : cs = [.bool x] := h
theorem rc_Str {cs : List Value} {x : Str} (h : rc Z cs x) : cs = [.string ⟨⟨x.b⟩⟩] := h
theorem rc_List {α : Type} [Cell α] {cs : List Value} {x : List α} (h : rc Z cs x) : ∃ v, RS Z v x ∧ cs = [v] := h
theorem RS.nil0 {α : Type} [Cell α] (Z : Zn) : RS Z (.slice none 0 0) ([] : List α) := ⟨none, 0, rfl, Nat.le_refl _, rfl⟩
theorem RCs.nil0 {α : Type} [Cell α] (Z : Zn) : RCs Z [] ([] : List α) := rfl
theorem St.takeN {h0 h : AH} {D : List Nat} {Z0 : Zn} {R : Nat × Nat} {L : List Itm} (n : Nat) (hS : St h0 D Z0 R Z h L) : St h0 D Z0 R Z h (L.take n) :=
 { hS with
  ok := fun p hp => hS.ok p (List.mem_of_mem_take hp)
  dj := hS.dj.sublist (List.take_sublist n L)
  dz := fun p hp => hS.dz p (List.mem_of_mem_take hp)
  new := fun p hp => hS.new p (List.mem_of_mem_take hp) }
end
section
variable {P : Program} {h0 h : AH} {D : List Nat} {Z0 Z : Zn} {R : Nat × Nat} {L : List Itm} {α : Type} [Cell α] {v : Value} {cells : List Value} {xs : List α} {s : Nat}
theorem RS.cell1 (hR : RS Z v xs) : v.cells.toList = [v] := by obtain ⟨a, c, rfl, _⟩ := hR; rfl
theorem RS.one1 (hR : RS Z v xs) : Value.oneCell' v = true := by obtain ⟨a, c, rfl, _⟩ := hR; rfl
theorem St.gcell1 {i : Nat} (hS : St h0 D Z0 R Z h L) (hi : L[i]? = some (.gs v cells s)) : v.cells.toList = [v] := by
 rcases hS.ok _ (List.mem_of_getElem? hi) with ⟨rfl, _⟩ | ⟨b, n, c, rfl, _⟩ <;> rfl
theorem St.gone1 {i : Nat} (hS : St h0 D Z0 R Z h L) (hi : L[i]? = some (.gs v cells s)) : Value.oneCell' v = true := by
 rcases hS.ok _ (List.mem_of_getElem? hi) with ⟨rfl, _⟩ | ⟨b, n, c, rfl, _⟩ <;> rfl
theorem one_nil : ([] : List Value).all Value.oneCell' = true := rfl
theorem one_cons {a : Value} {l : List Value} (h1 : Value.oneCell' a = true) (h2 : l.all Value.oneCell' = true) : (a :: l).all Value.oneCell' = true := by rw [List.all_cons, h1, h2]; rfl
theorem St.preL {A B : List Itm} (hS : St h0 D Z0 R Z h (A ++ B)) : Pre Z h A where
 zin := hS.zin
 liv := hS.liv
 ok p hp := hS.ok p (List.mem_append_left _ hp)
 dj := (List.pairwise_append.1 hS.dj).1
 dz p hp := hS.dz p (List.mem_append_left _ hp)
theorem o_box1 {l : KL} {t : TypeId} {x : Operand} (hx : opv l x = some v) (hc : v.cells.toList = [v]) : FrTo P l (.box t x) (fun id => .pointer (some ⟨id, 0, none⟩), [v], 0) := o_box hx hc
end
theorem r_mk {P : Program} {R : List COp} {k : Nat} {l : KL} {h : AH} {K : KL → AH → Prop} {g : Option (Option Nat × Bool)} {d : Option Nat} {op : Op} {h0 : AH} {D : List Nat} {Z0 Z : Zn} {Rv : Nat × Nat} {L : List Itm} {α : Type} [Cell α] {n : Nat} {xs : List α}
  (ho : R[k]? = some ⟨g, d, op⟩) (hg : gon l g) (hx : ∃ cells, FrTo P l op (fun id => .slice (some ⟨id, 0, none⟩) n n, cells, csz α) ∧ RCs Z cells xs ∧ n * csz α = cells.length) (hS : St h0 D Z0 Rv Z h L)
  (hk : ∀ v cells h', RCs Z cells xs → St h0 D Z0 Rv Z h' (.gs v cells (csz α) :: L) → wpR P R (k + 1) (updL l d v) h' K) : wpR P R k l h K := by
 obtain ⟨cells, h1, h2, h3⟩ := hx
 exact r_row ho hg h1 h3 hS fun v h' hS' => hk v cells h' h2 hS'
def CA : List Value → List (List Value) → Prop
 | [], css => css = []
 | v :: vs, css => ∃ cs css', css = cs :: css' ∧ v.cells.toList = cs ∧ CA vs css'
theorem CA.nil0 : CA [] [] := rfl
theorem CA.cons {v : Value} {vs : List Value} {cs : List Value} {css : List (List Value)} (h : v.cells.toList = cs) (k : CA vs css) : CA (v :: vs) (cs :: css) := ⟨cs, css, rfl, h, k⟩
theorem fill_agg {place : Nat → Option (Nat × Nat)} : ∀ (ids : List Nat) (vs : List Value) (css : List (List Value)) (cells : Array Value), CA vs css →
  Instr.fill place cells (ids.zip vs) = Instr.fill place cells (ids.zip (css.map fun cs => .agg cs.toArray)) := by
 intro ids
 induction ids with
 | nil => intro vs css cells _; rfl
 | cons i ids ih =>
  intro vs css cells hc
  cases vs with
  | nil => simp only [CA] at hc; subst hc; rfl
  | cons v vs =>
   obtain ⟨cs, css', rfl, h1, h2⟩ := hc
   have hv : v.cells = (Value.agg cs.toArray).cells := by
    show v.cells = cs.toArray
    rw [← h1]
   simp only [List.map_cons, List.zip_cons_cons, Instr.fill, hv]
   split
   ·rfl
   ·split
    ·rfl
    ·exact ih vs css' _ h2
theorem o_build {P : Program} {l : KL} {h : AH} {t : TypeId} {ps : Array (Nat × Operand)} {vs : List Value} {css : List (List Value)} {v : Value} (hvs : opvs l (ps.toList.map (·.2)) = some vs) (hc : CA vs css)
  (hb : aBuild P t ((ps.toList.map (·.1)).zip (css.map fun cs => .agg cs.toArray)) = some v) : OpTo P l (.build t ps) h v h := by
 intro e he
 have h3 := opvs_ok he _ hvs
 have : (ps.toList.map fun p => (p.1, e.ev p.2)) = (ps.toList.map (·.1)).zip vs := by
  rw [← h3, List.map_map, List.zip_map']; rfl
 simp only [aOp]
 rw [this]
 have : aBuild P t ((ps.toList.map (·.1)).zip vs) = some v := by
  rw [← hb]
  unfold aBuild
  simp only [fill_agg _ _ _ _ hc]
 rw [this]; rfl
theorem o_bs1 {P : Program} {l : KL} {t : TypeId} {n s : Nat} {ps : Array (Nat × Operand)} {vs : List Value} {css : List (List Value)} {cells : List Value} (hvs : opvs l (ps.toList.map (·.2)) = some vs) (hc : CA vs css)
  (hb : (aBuildSlice P t n ((ps.toList.map (·.1)).zip (css.map fun cs => .agg cs.toArray))).map (·.2) = some (cells, s)) : FrTo P l (.buildSlice t n ps) (fun id => .slice (some ⟨id, 0, none⟩) n n, cells, s) := by
 refine o_bs ?_
 unfold bsV
 rw [hvs]
 simp only
 rw [← hb]
 unfold aBuildSlice
 simp only [fill_agg _ _ _ _ hc]
section
variable {P : Program} {l : KL} {h h' : AH}
def cvTy (P : Program) (s d : TypeId) : Option IntKind := match P.underlying s, P.underlying d with | some _, some (.int k) => some k | _, _ => none
theorem o_conv {s d : TypeId} {x : Operand} {k kk : IntKind} {n : Int} (hx : opv l x = some (.int kk n)) (ht : cvTy P s d = some k) : OpTo P l (.convert s d x) h (.int k (k.wrap n)) h := by
 intro e he
 unfold cvTy at ht
 split at ht
 ·rename_i a b h1 h2
  simp only [Option.some.injEq] at ht
  subst ht
  simp only [aOp, he.opv hx, aConvert, h1, h2]
 ·cases ht
theorem o_rem {t t2 : TypeId} {x y : Operand} {k : IntKind} {a b : Int} (hb : b ≠ 0) (hx : opv l x = some (.int k a)) (hy : opv l y = some (.int k b)) : OpTo P l (.binOp .rem t x y t2) h (.int k (a.tmod b)) h := by
 intro e he
 simp only [aOp, he.opv hx, he.opv hy, aBin, aInt, if_true, if_neg hb, Option.map_some]
theorem o_quo {t t2 : TypeId} {x y : Operand} {k : IntKind} {a b : Int} (hb : b ≠ 0) (hx : opv l x = some (.int k a)) (hy : opv l y = some (.int k b)) : OpTo P l (.binOp .quo t x y t2) h (.int k (k.wrap (a.tdiv b))) h := by
 intro e he
 simp only [aOp, he.opv hx, he.opv hy, aBin, aInt, if_true, if_neg hb, Option.map_some]
end
end Go.Proofs.Ytahcngeimlkcgaa.Sy
