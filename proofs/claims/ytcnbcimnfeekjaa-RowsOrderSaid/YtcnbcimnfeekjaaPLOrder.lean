/- RowsOrder, plainly. -/
import Derived.Test.YtcnbcimnfeekjaaP9X
import Derived.Test.YtcnbcimnfeekjaaMLO0
namespace Go.Proofs.Ytcnbcimnfeekjaa.M
open Go Am Sy
set_option linter.unusedVariables false
set_option linter.unusedSimpArgs false
set_option maxRecDepth 100000
/-- Entries in order from a place and a column on, up to a place. -/
def Ord : Int → Int → List rows_Entry → Int → Prop
  | a, _, [], a' => a' = a
  | a, c, e :: x, a' => a ≤ e.From ∧ e.From < e.To ∧ c < e.Col ∧ (e.Dash = true ∨ x = []) ∧ Ord e.To e.Col x a'
inductive OD (r0 : Int) : List rows_Entry → Int → Int → Prop
  | nil : OD r0 [] r0 (-1)
  | snoc {x : List rows_Entry} {a c : Int} (e : rows_Entry) : OD r0 x a c → a ≤ e.From → e.From < e.To → c < e.Col → e.Dash = true → OD r0 (x ++ [e]) e.To e.Col
theorem OD.ord {r0 : Int} {x : List rows_Entry} {a c : Int} (h : OD r0 x a c) : ∀ (y : List rows_Entry) (a' : Int), Ord a c y a' → Ord r0 (-1) (x ++ y) a' := by
  induction h with
  | nil => intro y a' h; exact h
  | snoc e h1 h2 h3 h4 h5 ih =>
    intro y a' h
    have := ih (e :: y) a' ⟨h2, h3, h4, .inl h5, h⟩
    simpa using this
theorem past_wp (F : Nat) (l : List api_Token) (r : api_Row) (a : Int) (h : 0 ≤ a ∧ a ≤ r.To ∧ r.To ≤ l.length) (hn : l.length ≤ 20000) (hF : l.length + 10 < F) :
    Wp (rows_Entries_1 F a r l) (fun j => a ≤ j ∧ j ≤ r.To) := by
  have key : ∀ (m : Nat) (x : Int), a ≤ x → x ≤ r.To → r.To - x < m → Wp (rows_Entries_1_l0 F a r l m x) (fun j => a ≤ j ∧ j ≤ r.To) := by
    intro m
    induction m with
    | zero => intro x h1 h2 h3; omega
    | succ m ih =>
      intro x h1 h2 h3
      rw [rows_Entries_1_l0]
      refine wpI ?_ ?_ <;> intro hx
      · rw [if_pos (by omega)]
        refine wpB (wpG (by omega) ?_)
        intro t _
        rw [rcounts_eq]
        refine wpB (wpS ?_)
        refine wpI ?_ ?_ <;> intro _
        · exact wpS ⟨h1, h2⟩
        · rw [w64_eq (by omega) (by omega)]
          exact ih _ (by omega) (by omega) (by omega)
      · exact wpS ⟨h1, h2⟩
  unfold rows_Entries_1
  refine wpB ((key F a (by omega) (by omega) (by omega)).mono ?_)
  intro j hj
  exact wpS hj
theorem prop_wp (F : Nat) (t : api_Token) : Wp (rows_property F t) (fun _ => True) := by
  unfold rows_property; (repeat' (first | with_reducible refine wpB ?_ | (with_reducible refine wpI ?_ ?_ <;> intro _) | (with_reducible refine wpG (by assumption) ?_; intro _ _) | with_reducible refine wpS ?_ | (with_reducible refine wpN ?_; omega) | dsimp only)) <;> trivial
theorem rname_wp (F : Nat) (t : api_Token) : Wp (rows_name F t) (fun _ => True) := by
  unfold rows_name
  refine wpB ?_
  refine Wp.mono (P := fun _ => True) ?_ ?_
  · (repeat' (first | with_reducible refine wpB ?_ | (with_reducible refine wpI ?_ ?_ <;> intro _) | (with_reducible refine wpG (by assumption) ?_; intro _ _) | with_reducible refine wpS ?_ | (with_reducible refine wpN ?_; omega) | dsimp only)) <;> trivial
  · intro b _
    (repeat' (first | with_reducible refine wpB ?_ | (with_reducible refine wpI ?_ ?_ <;> intro _) | (with_reducible refine wpG (by assumption) ?_; intro _ _) | with_reducible refine wpS ?_ | (with_reducible refine wpN ?_; omega) | dsimp only)) <;> trivial
theorem ent_l1 (F : Nat) (b : List UInt8) (l : List api_Token) (r : api_Row) (hr : r.To ≤ l.length) (hn : l.length ≤ 20000) (hF : l.length + 10 < F) (e : List rows_Entry) (rest fr : Int) :
    ∀ (m : Nat) (a : Int) (nm : Bool), 0 ≤ a → a ≤ r.To → r.To - a < m → Wp (rows_Entries_l1 F b l r m r e rest a fr nm) (fun z => ∃ a', z = (r, e, rest, a', fr) ∧ a ≤ a' ∧ a' ≤ r.To) := by
  intro m
  induction m with
  | zero => intro a nm h1 h2 h3; omega
  | succ m ih =>
    intro a nm h1 h2 h3
    rw [rows_Entries_l1]
    refine wpB ?_
    refine Wp.mono (P := fun z => (z = .inl (r, e, a) ∧ a < r.To) ∨ z = .inr (r, e, rest, a, fr)) ?_ ?_
    · refine wpI ?_ ?_ <;> intro hx
      · rw [if_pos (by omega)]
        refine wpB (wpG (by omega) ?_)
        intro t _
        refine wpB ((prop_wp F t).mono ?_)
        intro p _
        have hg : 0 ≤ a ∧ a < (l.length : Int) := by omega
        rw [if_pos hg]
        refine wpI ?_ ?_ <;> intro _
        · refine wpI ?_ ?_ <;> intro _
          · refine wpB (wpG (by omega) ?_)
            intro t' _
            refine wpB ((rname_wp F t').mono ?_)
            intro p _
            (repeat' (first | with_reducible refine wpB ?_ | (with_reducible refine wpI ?_ ?_ <;> intro _) | (with_reducible refine wpG (by assumption) ?_; intro _ _) | with_reducible refine wpS ?_ | (with_reducible refine wpN ?_; omega) | dsimp only))
            all_goals first | exact .inr rfl | exact .inl ⟨rfl, hx⟩
          · exact wpS (.inl ⟨rfl, hx⟩)
        · refine wpB (wpG (by omega) ?_)
          intro t' _
          refine wpB ((rname_wp F t').mono ?_)
          intro p _
          (repeat' (first | with_reducible refine wpB ?_ | (with_reducible refine wpI ?_ ?_ <;> intro _) | (with_reducible refine wpG (by assumption) ?_; intro _ _) | with_reducible refine wpS ?_ | (with_reducible refine wpN ?_; omega) | dsimp only))
          all_goals first | exact .inr rfl | exact .inl ⟨rfl, hx⟩
      · exact wpS (.inr rfl)
    · rintro z (⟨rfl, hx⟩ | rfl)
      · dsimp only
        rw [if_pos (by omega)]
        refine wpB (wpG (by omega) ?_)
        intro t _
        refine wpB ((rname_wp F t).mono ?_)
        intro nm' _
        rw [w64_eq (by omega) (by omega)]
        refine wpB ((past_wp F l r (a + 1) (by omega) hn hF).mono ?_)
        intro j hj
        refine (ih j nm' (by omega) hj.2 (by omega)).mono ?_
        rintro z ⟨a', q1, q2, q3⟩
        exact ⟨a', q1, by omega, q3⟩
      · exact wpS ⟨a, rfl, Int.le_refl _, h2⟩
theorem from_lt {l : List api_Token} (h : l.Pairwise (fun a b => a.From < b.From)) {i j : Int} {u v : api_Token} (hi : 0 ≤ i) (hij : i < j) (hu : l[i.toNat]? = some u) (hv : l[j.toNat]? = some v) : u.From < v.From := by
  rw [List.pairwise_iff_getElem] at h
  obtain ⟨h1, rfl⟩ := List.getElem?_eq_some_iff.1 hu
  obtain ⟨h2, rfl⟩ := List.getElem?_eq_some_iff.1 hv
  exact h _ _ h1 h2 (by omega)
def EntOK (r : api_Row) (z : List rows_Entry × Int) : Prop := ∃ a', Ord r.From (-1) z.1 a' ∧ a' ≤ z.2 ∧ z.2 ≤ r.To ∧ (z.1 ≠ [] → z.2 = a') ∧ z.1.length ≤ 20001
theorem ent_l0 (F : Nat) (b : List UInt8) (l : List api_Token) (r : api_Row) (hr : 0 ≤ r.From ∧ r.From < r.To ∧ r.To ≤ l.length) (hn : l.length ≤ 20000) (hF : l.length + 10 < F) (hs : Small l) (hlt : l.Pairwise (fun a b => a.From < b.From))
    (ub : api_Token) (hub : l[r.From.toNat]? = some ub) :
    ∀ (m : Nat) (a : Int) (e : List rows_Entry) (rest ea ec : Int), r.From ≤ a → a ≤ r.To → r.To - a < m → OD r.From e ea ec → ea ≤ rest → rest ≤ a → (e ≠ [] → rest = ea) → (e.length : Int) ≤ a →
      (∀ u, l[a.toNat]? = some u → ec < u.From - ub.From) →
      Wp (rows_Entries_l0 F b l r m r e rest a) (EntOK r) := by
  have hbg : rows_begin F l r = some ub.From := by
    unfold rows_begin
    rw [if_pos (by omega), hub]; rfl
  have sub := hs ub (List.mem_of_getElem? hub)
  intro m
  induction m with
  | zero => intro a e rest ea ec h1 h2 h3; omega
  | succ m ih =>
    intro a e rest ea ec h1 h2 h3 hod k1 k2 k3 k4 k5
    rw [rows_Entries_l0]
    refine wpB ?_
    refine Wp.mono (P := fun z => (z = (r, e, a, true) ∧ a < r.To) ∨ z = (r, e, a, false)) ?_ ?_
    · refine wpI ?_ ?_ <;> intro hx
      · rw [if_pos (by omega)]
        refine wpB (wpG (by omega) ?_)
        intro t _
        (repeat' (first | with_reducible refine wpB ?_ | (with_reducible refine wpI ?_ ?_ <;> intro _) | (with_reducible refine wpG (by assumption) ?_; intro _ _) | with_reducible refine wpS ?_ | (with_reducible refine wpN ?_; omega) | dsimp only))
        all_goals first | exact .inr rfl | exact .inl ⟨rfl, hx⟩
      · exact wpS (.inr rfl)
    · rintro z (⟨rfl, hx⟩ | rfl)
      · dsimp only
        rw [if_pos rfl, if_pos (by omega)]
        refine wpB (wpG (by omega) ?_)
        intro u hu
        have hsu := hs u (List.mem_of_getElem? hu)
        rw [hbg]
        refine wpB (wpS ?_)
        rw [if_pos (by simp; omega), w64_eq (by omega) (by omega), w64_eq (by omega) (by omega)]
        refine wpB ((past_wp F l r (a + 1) (by omega) hn hF).mono ?_)
        intro j hj
        refine ih j _ (a + 1) (a + 1) (u.From - ub.From) (by omega) hj.2 (by omega) (hod.snoc ⟨true, u.From - ub.From, a, a + 1⟩ (by dsimp only; omega) (by dsimp only; omega) (k5 u hu) rfl) (by omega) hj.1 (fun _ => rfl) (by simp; omega) ?_
        intro v hv
        have := from_lt hlt (by omega) (show a < j by omega) hu hv
        omega
      · dsimp only
        rw [if_neg (by decide)]
        refine wpB ((ent_l1 F b l r hr.2.2 hn hF e rest a F a false (by omega) h2 (by omega)).mono ?_)
        rintro _ ⟨a', rfl, q1, q2⟩
        dsimp only
        refine wpB ?_
        have clone : ∀ x : List rows_Entry, x.length ≤ 20001 → slices_Clone_rows_Entry F x = some x := by
          intro x hx
          unfold slices_Clone_rows_Entry
          rw [if_pos (by simp; omega)]; rfl
        refine Wp.mono (P := fun z => (z = (r, e, a', true) ∧ a' < r.To) ∨ z = (r, e, a', false)) ?_ ?_
        · refine wpI ?_ ?_ <;> intro hx
          · rw [if_pos (by omega)]
            refine wpB (wpG (by omega) ?_)
            intro t _
            (repeat' (first | with_reducible refine wpB ?_ | (with_reducible refine wpI ?_ ?_ <;> intro _) | (with_reducible refine wpG (by assumption) ?_; intro _ _) | with_reducible refine wpS ?_ | (with_reducible refine wpN ?_; omega) | dsimp only))
            all_goals first | exact .inr rfl | exact .inl ⟨rfl, hx⟩
          · exact wpS (.inr rfl)
        · rintro z (⟨rfl, hx⟩ | rfl)
          · dsimp only
            rw [if_pos rfl, if_pos (by omega)]
            refine wpB (wpB (wpG (by omega) ?_))
            intro u hu
            have hsu := hs u (List.mem_of_getElem? hu)
            rw [hbg]
            refine wpB (wpS ?_)
            rw [if_pos (by simp; omega), w64_eq (by omega) (by omega), w64_eq (by omega) (by omega)]
            refine wpS ?_
            rw [clone _ (by simp; omega)]
            refine wpB (wpS (wpS ?_))
            refine ⟨a' + 1, hod.ord _ _ ⟨by dsimp only; omega, by dsimp only; omega, k5 u hu, .inr rfl, rfl⟩, Int.le_refl _, by dsimp only; omega, fun _ => rfl, by simp; omega⟩
          · dsimp only
            rw [if_neg (by decide)]
            refine wpB (wpS ?_)
            dsimp only
            rw [clone _ (by omega)]
            refine wpB (wpS (wpS ?_))
            refine ⟨ea, ?_, k1, by dsimp only; omega, k3, by dsimp only; omega⟩
            have := hod.ord [] ea rfl
            simpa using this
theorem ent_wp (b : List UInt8) (l : List api_Token) (r : api_Row) (hr : 0 ≤ r.From ∧ r.From < r.To ∧ r.To ≤ l.length) (ht : Toks l) : Wp (rows_Entries 3000 b l r) (EntOK r) := by
  have hl := ht.len
  unfold rows_Entries
  have none : EntOK r ([], r.From) := ⟨r.From, rfl, Int.le_refl _, by dsimp only; omega, fun h => absurd rfl h, by simp⟩
  refine wpI ?_ ?_ <;> intro hk
  · rw [if_neg (by omega), if_neg (by omega), if_neg (by omega)]
    refine wpB ((past_wp 3000 l r r.From (by omega) (by omega) (by omega)).mono ?_)
    intro j hj
    obtain ⟨ub, hub⟩ : ∃ ub, l[r.From.toNat]? = some ub := ⟨l[r.From.toNat]'(by omega), by simp⟩
    refine wpB ((ent_l0 3000 b l r hr (by omega) (by omega) ht.small ht.lt ub hub 3000 j [] j r.From (-1) hj.1 hj.2 (by omega) .nil hj.1 (Int.le_refl _) (fun h => absurd rfl h) (by simp; omega) ?_).mono ?_)
    · intro u hu
      by_cases h : j = r.From
      · subst h; rw [hub] at hu; injection hu with hu; subst hu; omega
      · have := from_lt ht.lt hr.1 (show r.From < j by omega) hub hu
        omega
    · intro z hz; exact wpS hz
  · exact wpS none
theorem order_l1 (F : Nat) (ns : List Int) (raw b : List UInt8) (l : List api_Token) (rs : List api_Row) (i n a' : Int) (x : List rows_Entry) (hx : x.length ≤ 20001) :
    ∀ (y d : List rows_Entry) (a c : Int) (m : Nat), x = d ++ y → Ord a c y a' → y.length < m →
      correctorlaw9_RowsOrder_l1 F ns raw m b l rs i x n a c d.length = some (.inl (b, l, rs, i, x, n, a')) := by
  intro y
  induction y with
  | nil =>
    intro d a c m h1 h2 h3
    obtain ⟨m, rfl⟩ : ∃ k, m = k + 1 := ⟨m - 1, by omega⟩
    rw [correctorlaw9_RowsOrder_l1, if_neg (by rw [h1]; simp)]
    have : a' = a := h2
    rw [this]
  | cons e y ih =>
    intro d a c m h1 h2 h3
    obtain ⟨m, rfl⟩ : ∃ k, m = k + 1 := ⟨m - 1, by omega⟩
    obtain ⟨o1, o2, o3, o4, o5⟩ := h2
    simp only [List.length_cons] at h3
    have e1 := mid_lt d y e
    have e2 := get_mid d y e
    rw [← h1] at e1 e2
    have hl : x.length = d.length + y.length + 1 := by rw [h1]; simp; omega
    have ew : w64 ((d.length : Int) + 1) = (d.length : Int) + 1 := w64_eq (by omega) (by omega)
    rw [correctorlaw9_RowsOrder_l1]
    simp only [if_pos e1.2, if_pos e1, e2, Option.bind_some, ew]
    rw [if_neg (by omega), if_neg (by omega), if_neg (by omega)]
    have hd : ((if e.Dash = true then
                          some (.inl (b, l, rs, x))
                        else
                          if ((d.length : Int) + 1) < (x.length : Int) then
                            some (.inr false)
                          else
                            some (.inl (b, l, rs, x))) : Option (Sum ((List UInt8) × (List api_Token) × (List api_Row) × (List rows_Entry)) Bool)) = some (.inl (b, l, rs, x)) := by
      rcases o4 with o4 | o4
      · rw [if_pos o4]
      · by_cases hh : e.Dash = true
        · rw [if_pos hh]
        · rw [if_neg hh, if_neg (by rw [hl, o4]; simp)]
    rw [hd]
    simp only [if_pos e1, e2, Option.bind_some]
    have := ih (d ++ [e]) e.To e.Col m (by rw [h1]; simp) o5 (by omega)
    rw [show ((d ++ [e]).length : Int) = (d.length : Int) + 1 by simp] at this
    exact this
theorem order_l0 (ns : List Int) (raw b : List UInt8) (l : List api_Token) (rs : List api_Row) (ht : Toks l) (hrs : ∀ r ∈ rs, 0 ≤ r.From ∧ r.From < r.To ∧ r.To ≤ l.length) (hn : rs.length ≤ 400) :
    ∀ (s d : List api_Row) (m : Nat), rs = d ++ s → s.length < m → correctorlaw9_RowsOrder_l0 3000 ns raw m b l rs d.length = some (.inl ()) := by
  intro s
  induction s with
  | nil =>
    intro d m h1 h2
    obtain ⟨m, rfl⟩ : ∃ k, m = k + 1 := ⟨m - 1, by omega⟩
    rw [correctorlaw9_RowsOrder_l0, if_neg (by rw [h1]; simp)]
  | cons r s ih =>
    intro d m h1 h2
    obtain ⟨m, rfl⟩ : ∃ k, m = k + 1 := ⟨m - 1, by omega⟩
    simp only [List.length_cons] at h2
    have e1 := mid_lt d s r
    have e2 := get_mid d s r
    rw [← h1] at e1 e2
    have hl : rs.length = d.length + s.length + 1 := by rw [h1]; simp; omega
    have ew : w64 ((d.length : Int) + 1) = (d.length : Int) + 1 := w64_eq (by omega) (by omega)
    obtain ⟨⟨x, n⟩, hent, a', q1, q2, q3, q4, q5⟩ := ent_wp b l r (hrs r (by rw [h1]; simp)) ht
    dsimp only at q1 q2 q3 q4 q5
    have hx2 : x.length < 3000 := by
      have : ∀ (y : List rows_Entry) (a c : Int), Ord a c y a' → (y.length : Int) + a ≤ a' := by
        intro y
        induction y with
        | nil => intro a c h; have : a' = a := h; simp; omega
        | cons e y ihy =>
          intro a c h
          obtain ⟨o1, o2, o3, o4, o5⟩ := h
          have := ihy _ _ o5
          simp; omega
      have := this x _ _ q1
      have hh := hrs r (by rw [h1]; simp)
      have := ht.len
      omega
    rw [correctorlaw9_RowsOrder_l0]
    simp only [if_pos e1.2, if_pos e1, e2, Option.bind_some, hent]
    have := order_l1 3000 ns raw b l rs (d.length : Int) n a' x q5 x [] r.From (-1) 3000 rfl q1 hx2
    simp only [List.length_nil, show ((0 : Nat) : Int) = 0 from rfl] at this
    rw [this]
    simp only [if_pos e1, e2, Option.bind_some, ew]
    rw [if_neg (by omega), if_neg (by omega)]
    have cont := ih (d ++ [r]) m (by rw [h1]; simp) (by omega)
    rw [show ((d ++ [r]).length : Int) = (d.length : Int) + 1 by simp] at cont
    by_cases hx0 : (0 : Int) < x.length
    · have : n = a' := q4 (by intro e; subst e; simp at hx0)
      rw [if_pos hx0, if_pos this]
      simp only [Option.bind_some, ew]
      exact cont
    · rw [if_neg hx0]
      simp only [Option.bind_some, ew]
      exact cont
theorem go_rows (K : List api_Token → Int → Int) {l : List api_Token} : ∀ (s p c : List api_Token) (o n : Int), l = p ++ c ++ s → ∀ r ∈ goR K p.length c o n s, 0 ≤ r.From ∧ r.From < r.To ∧ r.To ≤ l.length := by
  intro s
  induction s with
  | nil =>
    intro p c o n h r hr
    rw [goR] at hr
    by_cases hc : c = []
    · rw [if_pos hc] at hr; cases hr
    · have := List.length_pos_iff.2 hc
      rw [if_neg hc] at hr
      simp at hr
      subst hr
      rw [h]
      dsimp only
      simp
      omega
  | cons t s ih =>
    intro p c o n h r hr
    rw [goR] at hr
    by_cases hk : endK t.Kind = true
    · rw [if_pos hk] at hr
      rcases List.mem_cons.1 hr with rfl | hr
      · rw [h]; simp; omega
      · have e : (p.length : Int) + ((c ++ [t]).length : Int) = ((p ++ (c ++ [t])).length : Int) := by simp
        rw [e] at hr
        exact ih (p ++ (c ++ [t])) [] _ _ (by rw [h]; simp) r hr
    · rw [if_neg hk] at hr
      exact ih p (c ++ [t]) _ _ (by rw [h]; simp) r hr
theorem order_len (K : List api_Token → Int → Int) : ∀ (s c : List api_Token) (f o n : Int), (goR K f c o n s).length ≤ c.length + s.length := by
  intro s
  induction s with
  | nil =>
    intro c f o n
    rw [goR]
    by_cases h : c = []
    · simp [h]
    · have := List.length_pos_iff.2 h
      rw [if_neg h]; simp; omega
  | cons t s ih =>
    intro c f o n
    rw [goR]
    by_cases h : endK t.Kind = true
    · rw [if_pos h]
      have := ih [] (f + ((c ++ [t]).length : Int)) (brk t.Kind n) (brk t.Kind n)
      simp at this ⊢; omega
    · rw [if_neg h]
      have := ih (c ++ [t]) f o (brk t.Kind n)
      simp at this ⊢; omega
theorem order_holds (F : Nat) (ns : List Int) (raw : List UInt8) (hF : F = 3000) : correctorlaw9_RowsOrder F ns raw = some true := by
  subst hF
  unfold correctorlaw9_RowsOrder
  rw [known9]
  simp only [Option.bind_some, if_true]
  obtain ⟨b, hb, hbl⟩ := text_wp ns raw
  rw [hb]
  simp only [Option.bind_some]
  obtain ⟨l, hl, t⟩ := toks_wp b hbl
  rw [hl]
  simp only [Option.bind_some]
  rw [(rows_ref t b).2]
  simp only [Option.bind_some]
  have n1 := order_len kP l [] 0 0 0
  have k1 := t.len
  simp only [List.length_nil, Nat.zero_add] at n1
  have := order_l0 ns raw b l (goR kP 0 [] 0 0 l) t (go_rows kP l [] [] 0 0 rfl) (by omega) (goR kP 0 [] 0 0 l) [] 3000 rfl (by omega)
  simp only [List.length_nil, show ((0 : Nat) : Int) = 0 from rfl] at this
  rw [this]
  rfl
end Go.Proofs.Ytcnbcimnfeekjaa.M
