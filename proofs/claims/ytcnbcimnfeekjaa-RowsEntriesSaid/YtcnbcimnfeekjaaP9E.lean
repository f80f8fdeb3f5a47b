/- Entries, plainly: both, side by side. -/
import Derived.Test.YtcnbcimnfeekjaaPLOrder
namespace Go.Proofs.Ytcnbcimnfeekjaa.M
open Go Am Sy
set_option linter.unusedVariables false
set_option linter.unusedSimpArgs false
set_option maxRecDepth 100000
def Dead (l : List api_Token) (r : api_Row) (i : Int) : Prop := ∀ (j : Int) (v : api_Token), i ≤ j → j < r.To → l[j.toNat]? = some v → cnt v.Kind = false
structure RowT (l : List api_Token) (r : api_Row) : Prop where
  b : 0 ≤ r.From ∧ r.From < r.To ∧ r.To ≤ l.length
  dead : ∀ (f i : Int) (t u : api_Token), r.From ≤ f → f < i → i < r.To → l[f.toNat]? = some t → cnt t.Kind = true → l[i.toNat]? = some u → u.Kind = 1 ∨ u.Kind = 2 ∨ u.Kind = 4 → Dead l r i
def PS (l : List api_Token) (r : api_Row) (a j : Int) : Prop := a ≤ j ∧ j ≤ r.To ∧ (∀ (i : Int) (v : api_Token), a ≤ i → i < j → l[i.toNat]? = some v → cnt v.Kind = false) ∧ (∀ v : api_Token, j < r.To → l[j.toNat]? = some v → cnt v.Kind = true)
def SK (l : List api_Token) (r : api_Row) (a j : Int) : Prop := a ≤ j ∧ j ≤ r.To ∧ (∀ (i : Int) (v : api_Token), a ≤ i → i < j → l[i.toNat]? = some v → v.Kind = 3) ∧ (∀ v : api_Token, j < r.To → l[j.toNat]? = some v → v.Kind ≠ 3)
def Rl (l : List api_Token) (r : api_Row) (a j : Int) : Prop := (a = j ∧ a ≤ r.To ∧ ∀ v : api_Token, a < r.To → l[a.toNat]? = some v → cnt v.Kind = true) ∨ (a = r.To ∧ j < r.To ∧ Dead l r j)
theorem get_at (l : List api_Token) (i : Int) (h : 0 ≤ i ∧ i < (l.length : Int)) : ∃ v, l[i.toNat]? = some v := ⟨l[i.toNat]'(by omega), by simp⟩
theorem rel {l : List api_Token} {r : api_Row} (hr : RowT l r) {f a j : Int} {t : api_Token} (hf : r.From ≤ f ∧ f < r.To) (ht : l[f.toNat]? = some t) (hc : cnt t.Kind = true) (hp : PS l r (f + 1) a) (hs : SK l r (f + 1) j) : Rl l r a j := by
  obtain ⟨p1, p2, p3, p4⟩ := hp
  obtain ⟨s1, s2, s3, s4⟩ := hs
  have hb := hr.b
  have c3 : ∀ v : api_Token, v.Kind = 3 → cnt v.Kind = false := by intro v h; rw [h]; rfl
  have hja : j ≤ a := by
    by_cases h : j ≤ a
    · exact h
    · obtain ⟨v, hv⟩ := get_at l a (by omega)
      have e1 := p4 v (by omega) hv
      have e2 := c3 v (s3 a v (by omega) (by omega) hv)
      rw [e1] at e2; cases e2
  by_cases hj : j < r.To
  · obtain ⟨v, hv⟩ := get_at l j (by omega)
    have k3 := s4 v hj hv
    by_cases hcv : cnt v.Kind = true
    · have : a = j := by
        by_cases h : a = j
        · exact h
        · have := p3 j v (by omega) (by omega) hv
          rw [hcv] at this; cases this
      exact .inl ⟨this, p2, p4⟩
    · have kk : v.Kind = 1 ∨ v.Kind = 2 ∨ v.Kind = 4 := by
        simp [cnt] at hcv; omega
      have hd := hr.dead f j t v hf.1 (by omega) hj ht hc hv kk
      refine .inr ⟨?_, hj, hd⟩
      by_cases h : a = r.To
      · exact h
      · obtain ⟨w, hw⟩ := get_at l a (by omega)
        have e1 := p4 w (by omega) hw
        have e2 := hd a w hja (by omega) hw
        rw [e1] at e2; cases e2
  · exact .inl ⟨by omega, p2, p4⟩
theorem past2 (F : Nat) (l : List api_Token) (r : api_Row) (a : Int) (h : 0 ≤ a ∧ a ≤ r.To ∧ r.To ≤ l.length) (hn : l.length ≤ 20000) (hF : l.length + 10 < F) :
    Wp (rows_Entries_1 F a r l) (PS l r a) := by
  have key : ∀ (m : Nat) (x : Int), a ≤ x → x ≤ r.To → r.To - x < m → (∀ (i : Int) (v : api_Token), a ≤ i → i < x → l[i.toNat]? = some v → cnt v.Kind = false) → Wp (rows_Entries_1_l0 F a r l m x) (PS l r a) := by
    intro m
    induction m with
    | zero => intro x h1 h2 h3; omega
    | succ m ih =>
      intro x h1 h2 h3 h4
      rw [rows_Entries_1_l0]
      refine wpI ?_ ?_ <;> intro hx
      · rw [if_pos (by omega)]
        refine wpB (wpG (by omega) ?_)
        intro t ht
        rw [rcounts_eq]
        refine wpB (wpS ?_)
        refine wpI ?_ ?_ <;> intro hk
        · refine wpS ⟨h1, h2, h4, fun v _ hv => ?_⟩
          rw [ht] at hv; injection hv with hv; subst hv; exact hk
        · rw [w64_eq (by omega) (by omega)]
          refine ih _ (by omega) (by omega) (by omega) ?_
          intro i v i1 i2 hv
          by_cases hi : i = x
          · subst hi; rw [ht] at hv; injection hv with hv; subst hv; simpa using hk
          · exact h4 i v i1 (by omega) hv
      · exact wpS ⟨h1, h2, h4, fun v hv => absurd hv hx⟩
  unfold rows_Entries_1
  refine wpB ((key F a (by omega) (by omega) (by omega) (fun i v h1 h2 => by omega)).mono ?_)
  intro j hj
  exact wpS hj
theorem skip_wp (F : Nat) (l : List api_Token) (r : api_Row) (a : Int) (h : 0 ≤ a ∧ a ≤ r.To ∧ r.To ≤ l.length) (hn : l.length ≤ 20000) (hF : l.length + 10 < F) :
    Wp (correctorref9_skip F l a r.To 3) (SK l r a) := by
  have key : ∀ (m : Nat) (x : Int), a ≤ x → x ≤ r.To → r.To - x < m → (∀ (i : Int) (v : api_Token), a ≤ i → i < x → l[i.toNat]? = some v → v.Kind = 3) → Wp (correctorref9_skip_l0 F l a r.To 3 m x) (SK l r a) := by
    intro m
    induction m with
    | zero => intro x h1 h2 h3; omega
    | succ m ih =>
      intro x h1 h2 h3 h4
      rw [correctorref9_skip_l0]
      refine wpI ?_ ?_ <;> intro hx
      · rw [if_pos (by omega)]
        refine wpB (wpG (by omega) ?_)
        intro t ht
        refine wpI ?_ ?_ <;> intro hk
        · rw [w64_eq (by omega) (by omega)]
          refine ih _ (by omega) (by omega) (by omega) ?_
          intro i v i1 i2 hv
          by_cases hi : i = x
          · subst hi; rw [ht] at hv; injection hv with hv; subst hv; exact hk
          · exact h4 i v i1 (by omega) hv
        · refine wpS ⟨h1, h2, h4, fun v _ hv => ?_⟩
          rw [ht] at hv; injection hv with hv; subst hv; exact hk
      · exact wpS ⟨h1, h2, h4, fun v hv => absurd hv hx⟩
  unfold correctorref9_skip
  refine wpB ((key F a (by omega) (by omega) (by omega) (fun i v h1 h2 => by omega)).mono ?_)
  intro j hj
  exact wpS hj
def cv (e : rows_Entry) : correctorref9_Entry := ⟨e.Dash, e.Col, e.From, e.To⟩
def LastOK (e : List rows_Entry) (rest first : Int) : Prop := (e = [] ∧ rest = first) ∨ ∃ x y, e = x ++ [y] ∧ rest = y.To
theorem dash (F : Nat) (b : List UInt8) (l : List api_Token) (r : api_Row) (hr : RowT l r) (hn : l.length ≤ 20000) (hF : l.length + 10 < F) (hs : Small l)
    (ub : api_Token) (hub : l[r.From.toNat]? = some ub) (first : Int) :
    ∀ (m m' : Nat) (a j : Int) (e : List rows_Entry) (rest : Int), r.From ≤ a → a ≤ r.To → r.From ≤ j → j ≤ r.To → r.To - a < m → r.To - j < m' → Rl l r a j → (e.length : Int) ≤ a → LastOK e rest first →
      ∃ a' j' e' rest' q, rows_Entries_l0 F b l r m r e rest a = rows_Entries_l0 F b l r (q + 1) r e' rest' a' ∧ correctorref9_Entries_l1 F l r m' r j first ub.From (e.map cv) = some (r, j', first, ub.From, e'.map cv) ∧
        Rl l r a' j' ∧ (∀ v : api_Token, a' < r.To → l[a'.toNat]? = some v → v.Kind ≠ 5) ∧ LastOK e' rest' first ∧ r.From ≤ a' ∧ a' ≤ r.To ∧ r.From ≤ j' ∧ j' ≤ r.To ∧ (e'.length : Int) ≤ a' := by
  have hb := hr.b
  have hbg : rows_begin F l r = some ub.From := by
    unfold rows_begin
    rw [if_pos (by omega), hub]; rfl
  have sub := hs ub (List.mem_of_getElem? hub)
  intro m
  induction m with
  | zero => intro m' a j e rest h1 h2 h3 h4 h5; omega
  | succ m ih =>
    intro m' a j e rest h1 h2 h3 h4 h5 h6 hR hl hlast
    obtain ⟨m', rfl⟩ : ∃ k, m' = k + 1 := ⟨m' - 1, by omega⟩
    have stop : correctorref9_Entries_l1 F l r (m' + 1) r j first ub.From (e.map cv) = some (r, j, first, ub.From, e.map cv) → (∀ v : api_Token, a < r.To → l[a.toNat]? = some v → v.Kind ≠ 5) →
      ∃ a' j' e' rest' q, rows_Entries_l0 F b l r (m + 1) r e rest a = rows_Entries_l0 F b l r (q + 1) r e' rest' a' ∧ correctorref9_Entries_l1 F l r (m' + 1) r j first ub.From (e.map cv) = some (r, j', first, ub.From, e'.map cv) ∧
        Rl l r a' j' ∧ (∀ v : api_Token, a' < r.To → l[a'.toNat]? = some v → v.Kind ≠ 5) ∧ LastOK e' rest' first ∧ r.From ≤ a' ∧ a' ≤ r.To ∧ r.From ≤ j' ∧ j' ≤ r.To ∧ (e'.length : Int) ≤ a' :=
      fun q1 q2 => ⟨a, j, e, rest, m, rfl, q1, hR, q2, hlast, h1, h2, h3, h4, hl⟩
    rcases hR with ⟨rfl, _, hcnt⟩ | ⟨ha, hj, hd⟩
    · by_cases hx : a < r.To
      · have hi : 0 ≤ a ∧ a < (l.length : Int) := by omega
        obtain ⟨v, hv⟩ := get_at l a hi
        have hsv := hs v (List.mem_of_getElem? hv)
        by_cases h5' : v.Kind = 5
        · have ew : w64 (a + 1) = a + 1 := w64_eq (by omega) (by omega)
          have ew2 : w64 (v.From - ub.From) = v.From - ub.From := w64_eq (by omega) (by omega)
          obtain ⟨a2, hp, PSa⟩ := past2 F l r (a + 1) (by omega) hn hF
          obtain ⟨j2, hk, SKj⟩ := skip_wp F l r (a + 1) (by omega) hn hF
          have R2 := rel hr ⟨h1, hx⟩ hv (hcnt v hx hv) PSa SKj
          have step : rows_Entries_l0 F b l r (m + 1) r e rest a = rows_Entries_l0 F b l r m r (e ++ [⟨true, v.From - ub.From, a, a + 1⟩]) (a + 1) a2 := by
            rw [rows_Entries_l0]
            simp only [if_pos hx, if_pos hi, hv, Option.bind_some, if_pos h5', if_true, hbg, ew, ew2, hp]
            rw [if_pos (by simp; omega)]
          have step2 : correctorref9_Entries_l1 F l r (m' + 1) r a first ub.From (e.map cv) = correctorref9_Entries_l1 F l r m' r j2 first ub.From ((e ++ [(⟨true, v.From - ub.From, a, a + 1⟩ : rows_Entry)]).map cv) := by
            rw [correctorref9_Entries_l1]
            simp only [if_pos hx, if_pos hi, hv, Option.bind_some, if_pos h5', if_true, ew, ew2, hk]
            rw [if_pos (by simp; omega)]
            simp [cv]
          have p1 := PSa.1
          have p2 := PSa.2.1
          have p3 := SKj.1
          have p4 := SKj.2.1
          obtain ⟨a', j', e', rest', q, g1, g2, g3⟩ := ih m' a2 j2 (e ++ [⟨true, v.From - ub.From, a, a + 1⟩]) (a + 1) (by omega) p2 (by omega) p4 (by omega) (by omega) R2 (by simp; omega) (.inr ⟨_, _, rfl, rfl⟩)
          exact ⟨a', j', e', rest', q, step.trans g1, step2.trans g2, g3⟩
        · refine stop ?_ ?_
          · rw [correctorref9_Entries_l1, if_pos hx, if_pos hi, hv]
            simp only [Option.bind_some]
            rw [if_neg h5']
          · intro w _ hw
            rw [hv] at hw; injection hw with hw; subst hw; exact h5'
      · refine stop ?_ (fun w hw => absurd hw hx)
        rw [correctorref9_Entries_l1, if_neg hx]
    · have hi : 0 ≤ j ∧ j < (l.length : Int) := by omega
      obtain ⟨v, hv⟩ := get_at l j hi
      have hcv := hd j v (Int.le_refl _) hj hv
      refine stop ?_ (fun w hw => by omega)
      rw [correctorref9_Entries_l1, if_pos hj, if_pos hi, hv]
      simp only [Option.bind_some]
      rw [if_neg (by intro h; rw [h] at hcv; cases hcv)]
def scal (k : Int) : Bool := k == 15 || k == 16 || k == 17 || k == 13
theorem rname_eq (F : Nat) (t : api_Token) : rows_name F t = some (scal t.Kind) := by
  unfold rows_name scal
  repeat' split
  all_goals simp_all
theorem scalar_eq (F : Nat) (k : Int) : correctorref9_Scalar F k = some (scal k) := by
  unfold correctorref9_Scalar scal
  repeat' split
  all_goals simp_all
theorem prop_eq (F : Nat) (t : api_Token) : rows_property F t = some (t.Kind == 12 || t.Kind == 14) := by
  unfold rows_property
  repeat' split
  all_goals simp_all
/-- What comes behind properties: over a name, if there is one. -/
def After (F : Nat) (l : List api_Token) (r : api_Row) (k k2 : Int) : Prop :=
  ((if k < r.To then
                if 0 ≤ k ∧ k < (l.length : Int) then
                  (l[k.toNat]?).bind fun x19596 =>
                  (correctorref9_Scalar F x19596.Kind).bind fun r19602 =>
                  if r19602 = true then
                    (correctorref9_skip F l (w64 (k + 1)) r.To 3).bind fun r19610 =>
                    some r19610
                  else
                    some k
                else none
              else
                some k) : Option Int) = some k2
theorem props (F : Nat) (b : List UInt8) (l : List api_Token) (r : api_Row) (hr : RowT l r) (hn : l.length ≤ 20000) (hF : l.length + 10 < F) (e : List rows_Entry) (e2 : List correctorref9_Entry) (rest fr i first bg : Int) :
    ∀ (m m' : Nat) (a k : Int), r.From ≤ a → a ≤ r.To → r.From ≤ k → k ≤ r.To → r.To - a + 1 < m → r.To - k < m' → Rl l r a k →
      ∃ a2 k1 k2, rows_Entries_l1 F b l r m r e rest a fr false = some (r, e, rest, a2, fr) ∧ correctorref9_Entries_l2 F l r m' r i first bg e2 k = some (r, i, first, bg, e2, k1) ∧ After F l r k1 k2 ∧ Rl l r a2 k2 ∧ a ≤ a2 ∧ a2 ≤ r.To ∧ r.From ≤ k2 ∧ k2 ≤ r.To := by
  have hb := hr.b
  intro m
  induction m with
  | zero => intro m' a k h1 h2 h3 h4 h5; omega
  | succ m ih =>
    intro m' a k h1 h2 h3 h4 h5 h6 hR
    obtain ⟨m', rfl⟩ : ∃ x, m' = x + 1 := ⟨m' - 1, by omega⟩
    rcases hR with ⟨rfl, _, hcnt⟩ | ⟨ha, hk, hd⟩
    · by_cases hx : a < r.To
      · have hi : 0 ≤ a ∧ a < (l.length : Int) := by omega
        obtain ⟨v, hv⟩ := get_at l a hi
        have ew : w64 (a + 1) = a + 1 := w64_eq (by omega) (by omega)
        obtain ⟨a2, hp, PSa⟩ := past2 F l r (a + 1) (by omega) hn hF
        obtain ⟨j2, hk, SKj⟩ := skip_wp F l r (a + 1) (by omega) hn hF
        have R2 := rel hr ⟨h1, hx⟩ hv (hcnt v hx hv) PSa SKj
        have p1 := PSa.1
        have p2 := PSa.2.1
        have p3 := SKj.1
        have p4 := SKj.2.1
        by_cases hpr : v.Kind = 12 ∨ v.Kind = 14
        · have hpb : (v.Kind == 12 || v.Kind == 14) = true := by simpa using hpr
          have hsc : scal v.Kind = false := by rcases hpr with h | h <;> rw [h] <;> rfl
          have st1 : rows_Entries_l1 F b l r (m + 1) r e rest a fr false = rows_Entries_l1 F b l r m r e rest a2 fr false := by
            rw [rows_Entries_l1]
            simp only [if_pos hx, if_pos hi, hv, Option.bind_some, prop_eq, hpb, if_true, rname_eq, hsc, ew, hp, Bool.false_eq_true, if_false]
          have st2 : correctorref9_Entries_l2 F l r (m' + 1) r i first bg e2 a = correctorref9_Entries_l2 F l r m' r i first bg e2 j2 := by
            rw [correctorref9_Entries_l2]
            rcases hpr with h | h
            · simp only [if_pos hx, if_pos hi, hv, Option.bind_some, if_pos h, ew, hk]
            · have h12 : ¬ v.Kind = 12 := by omega
              simp only [if_pos hx, if_pos hi, hv, Option.bind_some, if_neg h12, if_pos h, ew, hk]
          obtain ⟨b2, k1, k2, g1, g2, g3, g4, g5, g6⟩ := ih m' a2 j2 (by omega) p2 (by omega) p4 (by omega) (by omega) R2
          exact ⟨b2, k1, k2, st1.trans g1, st2.trans g2, g3, g4, by omega, g6⟩
        · have hpb : (v.Kind == 12 || v.Kind == 14) = false := by simp; omega
          have h12 : ¬ v.Kind = 12 := by omega
          have h14 : ¬ v.Kind = 14 := by omega
          have st2 : correctorref9_Entries_l2 F l r (m' + 1) r i first bg e2 a = some (r, i, first, bg, e2, a) := by
            rw [correctorref9_Entries_l2]
            simp only [if_pos hx, if_pos hi, hv, Option.bind_some, if_neg h12, if_neg h14]
          by_cases hsc : scal v.Kind = true
          · obtain ⟨m, rfl⟩ : ∃ x, m = x + 1 := ⟨m - 1, by omega⟩
            have last : rows_Entries_l1 F b l r (m + 1) r e rest a2 fr true = some (r, e, rest, a2, fr) := by
              rw [rows_Entries_l1]
              by_cases hx2 : a2 < r.To
              · have hi2 : 0 ≤ a2 ∧ a2 < (l.length : Int) := by omega
                obtain ⟨w, hw⟩ := get_at l a2 hi2
                simp only [if_pos hx2, if_pos hi2, hw, Option.bind_some, prop_eq, rname_eq, if_true]
                cases h1 : (w.Kind == 12 || w.Kind == 14) <;> cases h2 : scal w.Kind <;> simp
              · rw [if_neg hx2]; rfl
            have st1 : rows_Entries_l1 F b l r (m + 1 + 1) r e rest a fr false = rows_Entries_l1 F b l r (m + 1) r e rest a2 fr true := by
              rw [rows_Entries_l1]
              simp only [if_pos hx, if_pos hi, hv, Option.bind_some, prop_eq, hpb, if_true, rname_eq, hsc, ew, hp, Bool.false_eq_true, if_false]
            refine ⟨a2, a, j2, st1.trans last, st2, ?_, R2, by omega, p2, by omega, p4⟩
            unfold After
            simp only [if_pos hx, if_pos hi, hv, Option.bind_some, scalar_eq, hsc, if_true, ew, hk]
          · have hsf : scal v.Kind = false := by simpa using hsc
            have st1 : rows_Entries_l1 F b l r (m + 1) r e rest a fr false = some (r, e, rest, a, fr) := by
              rw [rows_Entries_l1]
              simp only [if_pos hx, if_pos hi, hv, Option.bind_some, prop_eq, hpb, if_true, rname_eq, hsf, ew, hp, Bool.false_eq_true, if_false]
            refine ⟨a, a, a, st1, st2, ?_, .inl ⟨rfl, h2, hcnt⟩, Int.le_refl _, h2, h3, h4⟩
            unfold After
            simp only [if_pos hx, if_pos hi, hv, Option.bind_some, scalar_eq, hsf, Bool.false_eq_true, if_false]
      · refine ⟨a, a, a, ?_, ?_, ?_, .inl ⟨rfl, h2, hcnt⟩, Int.le_refl _, h2, h3, h4⟩
        · rw [rows_Entries_l1, if_neg hx]; rfl
        · rw [correctorref9_Entries_l2, if_neg hx]; rfl
        · unfold After; rw [if_neg hx]
    · have hi : 0 ≤ k ∧ k < (l.length : Int) := by omega
      obtain ⟨v, hv⟩ := get_at l k hi
      have hcv := hd k v (Int.le_refl _) hk hv
      have h12 : ¬ v.Kind = 12 := by intro h; rw [h] at hcv; cases hcv
      have h14 : ¬ v.Kind = 14 := by intro h; rw [h] at hcv; cases hcv
      have hsf : scal v.Kind = false := by
        cases h : scal v.Kind with
        | false => rfl
        | true =>
          simp [scal] at h
          rcases h with ((h | h) | h) | h <;> rw [h] at hcv <;> cases hcv
      refine ⟨a, k, k, ?_, ?_, ?_, .inr ⟨ha, hk, hd⟩, Int.le_refl _, h2, h3, h4⟩
      · rw [rows_Entries_l1, if_neg (by omega)]; rfl
      · rw [correctorref9_Entries_l2]
        simp only [if_pos hk, if_pos hi, hv, Option.bind_some, if_neg h12, if_neg h14]
      · unfold After
        simp only [if_pos hk, if_pos hi, hv, Option.bind_some, scalar_eq, hsf, Bool.false_eq_true, if_false]
end Go.Proofs.Ytcnbcimnfeekjaa.M
