/- RowsEntries, plainly. -/
import Derived.Test.YtcnbcimnfeekjaaP9E
import Derived.Test.YtcnbcimnfeekjaaMLE0
namespace Go.Proofs.Ytcnbcimnfeekjaa.M
open Go Am Sy
set_option linter.unusedVariables false
set_option linter.unusedSimpArgs false
set_option maxRecDepth 100000
theorem ref_past (F : Nat) (l : List api_Token) (r : api_Row) (a : Int) (hr : r.To ≤ l.length) : ∀ (m : Nat) (x j : Int), 0 ≤ x → x ≤ 20000 → rows_Entries_1_l0 F a r l m x = some j → l.length ≤ 20000 → correctorref9_Entries_l0 F l r m r x = some (r, j) := by
  intro m
  induction m with
  | zero => intro x j h0 h1 h; rw [rows_Entries_1_l0] at h; cases h
  | succ m ih =>
    intro x j h0 h1 h hn
    rw [rows_Entries_1_l0] at h
    rw [correctorref9_Entries_l0]
    by_cases hx : x < r.To
    · have hi : 0 ≤ x ∧ x < (l.length : Int) := by omega
      obtain ⟨v, hv⟩ := get_at l x hi
      simp only [if_pos hx, if_pos hi, hv, Option.bind_some, rcounts_eq, counts_eq] at h ⊢
      by_cases hc : cnt v.Kind = true
      · rw [if_pos hc] at h ⊢
        injection h with h; rw [h]
      · rw [if_neg hc] at h ⊢
        rw [w64_eq (by omega) (by omega)] at h ⊢
        exact ih _ _ (by omega) (by omega) h hn
    · rw [if_neg hx] at h ⊢
      injection h with h; rw [h]
theorem after3 {F : Nat} {l : List api_Token} {r : api_Row} {k k2 : Int} (h : After F l r k k2) (e2 : List correctorref9_Entry) :
    ((if k < r.To then
                if 0 ≤ k ∧ k < (l.length : Int) then
                  (l[k.toNat]?).bind fun x19596 =>
                  (correctorref9_Scalar F x19596.Kind).bind fun r19602 =>
                  if r19602 = true then
                    (correctorref9_skip F l (w64 (k + 1)) r.To 3).bind fun r19610 =>
                    some (r, e2, r19610)
                  else
                    some (r, e2, k)
                else none
              else
                some (r, e2, k)) : Option (api_Row × (List correctorref9_Entry) × Int)) = some (r, e2, k2) := by
  unfold After at h
  by_cases hx : k < r.To
  · rw [if_pos hx] at h ⊢
    by_cases hi : 0 ≤ k ∧ k < (l.length : Int)
    · rw [if_pos hi] at h ⊢
      obtain ⟨v, hv⟩ := get_at l k hi
      simp only [hv, Option.bind_some, scalar_eq] at h ⊢
      by_cases hs : scal v.Kind = true
      · rw [if_pos hs] at h ⊢
        rcases hk : correctorref9_skip F l (w64 (k + 1)) r.To 3 with _ | z
        · rw [hk] at h; cases h
        · rw [hk] at h; simp only [Option.bind_some] at h ⊢; injection h with h; rw [h]
      · rw [if_neg hs] at h ⊢
        injection h with h; rw [h]
    · rw [if_neg hi] at h; cases h
  · rw [if_neg hx] at h ⊢
    injection h with h; rw [h]
theorem fin_eq {e : List rows_Entry} {rest first : Int} (h : LastOK e rest first) (hl : e.length ≤ 20001) :
    (if ((e.map cv).length : Int) = (0 : Int) then
                  some ([], first)
                else
                  if 0 ≤ (w64 (((e.map cv).length : Int) - 1)) ∧ (w64 (((e.map cv).length : Int) - 1)) < ((e.map cv).length : Int) then
                    ((e.map cv)[(w64 (((e.map cv).length : Int) - 1)).toNat]?).bind fun x19754 =>
                    some (e.map cv, x19754.To)
                  else none) = some (e.map cv, rest) := by
  rcases h with ⟨rfl, rfl⟩ | ⟨x, y, rfl, rfl⟩
  · rfl
  · have hlen : (((x ++ [y]).map cv).length : Int) = (x.length : Int) + 1 := by simp
    rw [if_neg (by omega), hlen]
    have ew : w64 ((x.length : Int) + 1 - 1) = (x.length : Int) := by
      simp at hl
      rw [w64_eq (by omega) (by omega)]; omega
    rw [ew, if_pos (by omega)]
    have : ((x ++ [y]).map cv)[((x.length : Int)).toNat]? = some (cv y) := by simp
    rw [this]
    rfl
theorem ent_eq (b : List UInt8) (l : List api_Token) (r : api_Row) (hr : RowT l r) (ht : Toks l) :
    ∃ x n, rows_Entries 3000 b l r = some (x, n) ∧ correctorref9_Entries 3000 l r = some (x.map cv, n) := by
  have hb := hr.b
  have hl := ht.len
  have hs := ht.small
  unfold rows_Entries correctorref9_Entries
  by_cases hk : r.Kind = 5
  · rw [if_pos hk, if_pos hk, if_neg (by omega), if_neg (by omega), if_neg (by omega)]
    obtain ⟨a0, hp, PSa⟩ := past2 3000 l r r.From (by omega) (by omega) (by omega)
    have hp' : rows_Entries_1_l0 3000 r.From r l 3000 r.From = some a0 := by
      unfold rows_Entries_1 at hp
      rcases hh : rows_Entries_1_l0 3000 r.From r l 3000 r.From with _ | z
      · rw [hh] at hp; cases hp
      · rw [hh] at hp; exact hp
    have hrp := ref_past 3000 l r r.From hb.2.2 3000 r.From a0 (by omega) (by omega) hp' (by omega)
    obtain ⟨ub, hub⟩ := get_at l r.From (by omega)
    have sub := hs ub (List.mem_of_getElem? hub)
    have hbg : rows_begin 3000 l r = some ub.From := by
      unfold rows_begin
      rw [if_pos (by omega), hub]; rfl
    have p1 := PSa.1
    have p2 := PSa.2.1
    obtain ⟨a', j', e', rest', q, g1, g2, g3, g4, g5, g6, g7, g8, g9, g10⟩ := dash 3000 b l r hr (by omega) (by omega) hs ub hub a0 3000 3000 a0 a0 [] a0 p1 p2 p1 p2 (by omega) (by omega) (.inl ⟨rfl, p2, fun v h1 h2 => PSa.2.2.2 v h1 h2⟩) (by simp; omega) (.inl ⟨rfl, rfl⟩)
    obtain ⟨a2, k1, k2, f1, f2, f3, f4, f5, f6, f7, f8⟩ := props 3000 b l r hr (by omega) (by omega) e' (e'.map cv) rest' a' j' a0 ub.From 3000 3000 a' j' g6 g7 g8 g9 (by omega) (by omega) g3
    have clone : ∀ x : List rows_Entry, x.length ≤ 20001 → slices_Clone_rows_Entry 3000 x = some x := by
      intro x hx
      unfold slices_Clone_rows_Entry
      rw [if_pos (by simp; omega)]; rfl
    rw [hp, hrp]
    simp only [Option.bind_some]
    rw [g1, if_pos (show 0 ≤ r.From ∧ r.From < (l.length : Int) by omega), hub]
    simp only [Option.bind_some, List.map_nil] at g2 ⊢
    rw [g2]
    simp only [Option.bind_some]
    rw [f2]
    simp only [Option.bind_some]
    rw [after3 f3]
    simp only [Option.bind_some]
    have hnd : ((if a' < r.To then
        if 0 ≤ a' ∧ a' < (l.length : Int) then
          (l[a'.toNat]?).bind fun x17638 =>
          if x17638.Kind = (5 : Int) then
            some (r, e', a', true)
          else
            some (r, e', a', false)
        else none
      else
        some (r, e', a', false)) : Option (api_Row × (List rows_Entry) × Int × Bool)) = some (r, e', a', false) := by
      by_cases hx : a' < r.To
      · have hi : 0 ≤ a' ∧ a' < (l.length : Int) := by omega
        obtain ⟨v, hv⟩ := get_at l a' hi
        rw [if_pos hx, if_pos hi, hv]
        simp only [Option.bind_some]
        rw [if_neg (g4 v hx hv)]
      · rw [if_neg hx]
    rw [rows_Entries_l0, hnd]
    simp only [Option.bind_some, Bool.false_eq_true, if_false]
    rw [f1]
    simp only [Option.bind_some]
    have noKey : (∀ v : api_Token, a2 < r.To → l[a2.toNat]? = some v → v.Kind ≠ 6) → (∀ v : api_Token, k2 < r.To → l[k2.toNat]? = some v → v.Kind ≠ 6) →
        ((if a2 < r.To then
              if 0 ≤ a2 ∧ a2 < (l.length : Int) then
                (l[a2.toNat]?).bind fun x18183 =>
                if x18183.Kind = (6 : Int) then
                  some (r, e', a2, true)
                else
                  some (r, e', a2, false)
              else none
            else
              some (r, e', a2, false)) : Option (api_Row × (List rows_Entry) × Int × Bool)) = some (r, e', a2, false) ∧
        ((if k2 < r.To then
                    if 0 ≤ k2 ∧ k2 < (l.length : Int) then
                      (l[k2.toNat]?).bind fun x19697 =>
                      if x19697.Kind = (6 : Int) then
                        some (e'.map cv, true)
                      else
                        some (e'.map cv, false)
                    else none
                  else
                    some (e'.map cv, false)) : Option ((List correctorref9_Entry) × Bool)) = some (e'.map cv, false) := by
      intro n1 n2
      constructor
      · by_cases hx : a2 < r.To
        · have hi : 0 ≤ a2 ∧ a2 < (l.length : Int) := by omega
          obtain ⟨v, hv⟩ := get_at l a2 hi
          rw [if_pos hx, if_pos hi, hv]
          simp only [Option.bind_some]
          rw [if_neg (n1 v hx hv)]
        · rw [if_neg hx]
      · by_cases hx : k2 < r.To
        · have hi : 0 ≤ k2 ∧ k2 < (l.length : Int) := by omega
          obtain ⟨v, hv⟩ := get_at l k2 hi
          rw [if_pos hx, if_pos hi, hv]
          simp only [Option.bind_some]
          rw [if_neg (n2 v hx hv)]
        · rw [if_neg hx]
    by_cases key : a2 = k2 ∧ a2 < r.To ∧ ∃ v : api_Token, l[a2.toNat]? = some v ∧ v.Kind = 6
    · obtain ⟨rfl, hx, v, hv, hv6⟩ := key
      have hi : 0 ≤ a2 ∧ a2 < (l.length : Int) := by omega
      have haj : a' = j' := by
        rcases g3 with ⟨h, _⟩ | ⟨h, _⟩
        · exact h
        · omega
      subst haj
      have hi2 : 0 ≤ a' ∧ a' < (l.length : Int) := by omega
      obtain ⟨u, hu⟩ := get_at l a' hi2
      have hsu := hs u (List.mem_of_getElem? hu)
      have ew : w64 (a2 + 1) = a2 + 1 := w64_eq (by omega) (by omega)
      have ew2 : w64 (u.From - ub.From) = u.From - ub.From := w64_eq (by omega) (by omega)
      refine ⟨e' ++ [⟨false, u.From - ub.From, a', a2 + 1⟩], a2 + 1, ?_, ?_⟩
      · simp only [if_pos hx, if_pos hi, hv, Option.bind_some, if_pos hv6, if_true, if_pos hi2, hu, hbg, ew, ew2]
        rw [if_pos (by simp; omega)]
        simp only [Option.bind_some]
        rw [clone _ (by simp; omega)]
        rfl
      · simp only [if_pos hx, if_pos hi, hv, Option.bind_some, if_pos hv6, if_true, if_pos hi2, hu, ew, ew2]
        rw [if_pos (by simp; omega)]
        simp only [Option.bind_some]
        have hm : e'.map cv ++ [(⟨false, u.From - ub.From, a', a2 + 1⟩ : correctorref9_Entry)] = (e' ++ [(⟨false, u.From - ub.From, a', a2 + 1⟩ : rows_Entry)]).map cv := by simp [cv]
        rw [hm]
        exact fin_eq (first := a0) (.inr ⟨e', _, rfl, rfl⟩) (by simp; omega)
    · have n1 : ∀ v : api_Token, a2 < r.To → l[a2.toNat]? = some v → v.Kind ≠ 6 := by
        intro v h1 h2 h3
        rcases f4 with ⟨h, _⟩ | ⟨h, _⟩
        · exact key ⟨h, h1, v, h2, h3⟩
        · omega
      have n2 : ∀ v : api_Token, k2 < r.To → l[k2.toNat]? = some v → v.Kind ≠ 6 := by
        intro v h1 h2 h3
        rcases f4 with ⟨h, _⟩ | ⟨h, _, hd⟩
        · subst h; exact key ⟨rfl, h1, v, h2, h3⟩
        · have := hd k2 v (Int.le_refl _) h1 h2
          rw [h3] at this; cases this
      obtain ⟨w1, w2⟩ := noKey n1 n2
      refine ⟨e', rest', ?_, ?_⟩
      · rw [w1]
        simp only [Option.bind_some, Bool.false_eq_true, if_false]
        rw [clone _ (by omega)]
        rfl
      · rw [w2]
        simp only [Option.bind_some, Bool.false_eq_true, if_false]
        exact fin_eq g5 (by omega)
  · rw [if_neg hk, if_neg hk]
    exact ⟨[], r.From, rfl, rfl⟩
theorem go_parts (K : List api_Token → Int → Int) {l : List api_Token} : ∀ (s p c : List api_Token) (o n : Int), l = p ++ c ++ s → (∀ t ∈ c, endK t.Kind = false) → ∀ r ∈ goR K p.length c o n s,
    ∃ p' c' s', l = p' ++ c' ++ s' ∧ c' ≠ [] ∧ NE c' ∧ r.From = (p'.length : Int) ∧ r.To = (p'.length : Int) + (c'.length : Int) := by
  intro s
  induction s with
  | nil =>
    intro p c o n h hc r hr
    rw [goR] at hr
    by_cases hce : c = []
    · rw [if_pos hce] at hr; cases hr
    · rw [if_neg hce] at hr
      simp at hr
      subst hr
      exact ⟨p, c, [], h, hce, NE.of hc, rfl, rfl⟩
  | cons t s ih =>
    intro p c o n h hc r hr
    rw [goR] at hr
    by_cases hk : endK t.Kind = true
    · rw [if_pos hk] at hr
      rcases List.mem_cons.1 hr with rfl | hr
      · exact ⟨p, c ++ [t], s, by rw [h]; simp, by simp, NE.snoc hc t, rfl, rfl⟩
      · have e : (p.length : Int) + ((c ++ [t]).length : Int) = ((p ++ (c ++ [t])).length : Int) := by simp
        rw [e] at hr
        exact ih (p ++ (c ++ [t])) [] _ _ (by rw [h]; simp) (by simp) r hr
    · rw [if_neg hk] at hr
      exact ih p (c ++ [t]) _ _ (by rw [h]; simp) (by intro x hx; rcases List.mem_append.1 hx with hx | hx; exact hc x hx; simp at hx; subst hx; simpa using hk) r hr
theorem rowT {l : List api_Token} (ht : Toks l) {r : api_Row} {p c s : List api_Token} (h : l = p ++ c ++ s) (hc : c ≠ []) (hne : NE c) (h1 : r.From = (p.length : Int)) (h2 : r.To = (p.length : Int) + (c.length : Int)) : RowT l r := by
  have hp := List.length_pos_iff.2 hc
  have hl : l.length = p.length + c.length + s.length := by rw [h]; simp; omega
  refine ⟨by omega, ?_⟩
  intro f i t u hf hfi hi hft hct hu hk
  obtain ⟨q, w, q', e, hq⟩ : ∃ q w q', c = q ++ w :: q' ∧ (q.length : Int) = i - p.length := by
    have hlt : (i - p.length).toNat < c.length := by omega
    refine ⟨c.take (i - p.length).toNat, c[(i - p.length).toNat], c.drop ((i - p.length).toNat + 1), ?_, ?_⟩
    · rw [← List.drop_eq_getElem_cons hlt, List.take_append_drop]
    · simp; omega
  have hwu : w = u := by
    have := get_mid2 p q (q' ++ s) w
    rw [show p ++ q ++ w :: (q' ++ s) = l by rw [h, e]; simp, show (p.length : Int) + (q.length : Int) = i by omega, hu] at this
    injection this with this; exact this.symm
  subst hwu
  have hcl : c.length = q.length + q'.length + 1 := by rw [e]; simp; omega
  have hq0 : q ≠ [] := by intro hh; subst hh; simp at hq; omega
  have cK : ∀ k : Int, k = 1 ∨ k = 4 → cnt k = false := by rintro k (h | h) <;> rw [h] <;> rfl
  rcases hk with hk | hk | hk
  · have : q' = [] := by
      cases q' with
      | nil => rfl
      | cons x q'' =>
        have := hne q w x q'' e
        rw [hk] at this; cases this
    subst this
    intro j v hj hjt hv
    have : j = i := by simp at hcl; omega
    subst this
    rw [hu] at hv; injection hv with hv; subst hv
    exact cK _ (.inl hk)
  · exact absurd (mid_start h ht.marks hne e (.inl hk)) hq0
  · intro j v hj hjt hv
    by_cases hji : j = i
    · subst hji
      rw [hu] at hv; injection hv with hv; subst hv
      exact cK _ (.inr hk)
    · cases q' with
      | nil => simp at hcl; omega
      | cons x q'' =>
        have hx := ht.coms (p ++ q) w x (q'' ++ s) (by rw [h, e]; simp) hk
        have : q'' = [] := by
          cases q'' with
          | nil => rfl
          | cons y q3 =>
            have := hne (q ++ [w]) x y q3 (by rw [e]; simp)
            rw [hx] at this; cases this
        subst this
        have hj1 : j = i + 1 := by simp at hcl; omega
        have := get_mid2 p (q ++ [w]) s x
        rw [show p ++ (q ++ [w]) ++ x :: s = l by rw [h, e]; simp, show (p.length : Int) + ((q ++ [w]).length : Int) = j by simp; omega, hv] at this
        injection this with this
        subst this
        exact cK _ (.inl hx)
theorem entries_l1 (F : Nat) (ns : List Int) (raw b : List UInt8) (l : List api_Token) (rs : List api_Row) (i : Int) (x : List rows_Entry) (hx : x.length ≤ 20001) : ∀ (m : Nat) (k : Int), 0 ≤ k → k ≤ x.length → x.length - k < m →
    correctorlaw9_RowsEntries_l1 F ns raw m b l rs i x (x.map cv) k = some (.inl (b, l, rs, i)) := by
  intro m
  induction m with
  | zero => intro k h1 h2 h3; omega
  | succ m ih =>
    intro k h1 h2 h3
    rw [correctorlaw9_RowsEntries_l1]
    by_cases h : k < x.length
    · have hi : 0 ≤ k ∧ k < (x.length : Int) := ⟨h1, h⟩
      have hi2 : 0 ≤ k ∧ k < ((x.map cv).length : Int) := by simpa using hi
      obtain ⟨u, hu⟩ : ∃ u, x[k.toNat]? = some u := ⟨x[k.toNat]'(by omega), by simp⟩
      have hu2 : (x.map cv)[k.toNat]? = some (cv u) := by rw [List.getElem?_map, hu]; rfl
      have d1 : (cv u).Dash = u.Dash := rfl
      have d2 : (cv u).Col = u.Col := rfl
      have d3 : (cv u).From = u.From := rfl
      have d4 : (cv u).To = u.To := rfl
      have ew : w64 (k + 1) = k + 1 := w64_eq (by omega) (by omega)
      have nx := ih (k + 1) (by omega) (by omega) (by omega)
      simp only [if_pos h, if_pos hi, if_pos hi2, hu, hu2, Option.bind_some, d1, d2, d3, d4, if_true, ew]
      cases hd : u.Dash with
      | true => simp only [if_true, Option.bind_some, nx, hd]
      | false => simp only [if_true, Bool.false_eq_true, if_false, Option.bind_some, nx, hd]
    · rw [if_neg h]
theorem entries_l0 (ns : List Int) (raw b : List UInt8) (l : List api_Token) (rs : List api_Row) (ht : Toks l) (hrs : ∀ r ∈ rs, RowT l r) (hn : rs.length ≤ 400) :
    ∀ (s d : List api_Row) (m : Nat), rs = d ++ s → s.length < m → correctorlaw9_RowsEntries_l0 3000 ns raw m b l rs d.length = some (.inl ()) := by
  intro s
  induction s with
  | nil =>
    intro d m h1 h2
    obtain ⟨m, rfl⟩ : ∃ k, m = k + 1 := ⟨m - 1, by omega⟩
    rw [correctorlaw9_RowsEntries_l0, if_neg (by rw [h1]; simp)]
  | cons r s ih =>
    intro d m h1 h2
    obtain ⟨m, rfl⟩ : ∃ k, m = k + 1 := ⟨m - 1, by omega⟩
    simp only [List.length_cons] at h2
    have e1 := mid_lt d s r
    have e2 := get_mid d s r
    rw [← h1] at e1 e2
    have hl : rs.length = d.length + s.length + 1 := by rw [h1]; simp; omega
    have ew : w64 ((d.length : Int) + 1) = (d.length : Int) + 1 := w64_eq (by omega) (by omega)
    have hT := hrs r (by rw [h1]; simp)
    obtain ⟨x, n, q1, q2⟩ := ent_eq b l r hT ht
    have hx2 : x.length < 3000 := by
      obtain ⟨⟨x', n'⟩, hent, a', o1, o2, o3, _, _⟩ := ent_wp b l r hT.b ht
      rw [q1] at hent
      injection hent with hent
      injection hent with hent _
      subst hent
      dsimp only at o1 o2 o3
      have : ∀ (y : List rows_Entry) (a c : Int), Ord a c y a' → (y.length : Int) + a ≤ a' := by
        intro y
        induction y with
        | nil => intro a c h; have : a' = a := h; simp; omega
        | cons e y ihy =>
          intro a c h
          obtain ⟨o1, o2, o3, o4, o5⟩ := h
          have := ihy _ _ o5
          simp; omega
      have := this x _ _ o1
      have hh := hT.b
      have := ht.len
      omega
    rw [correctorlaw9_RowsEntries_l0]
    simp only [if_pos e1.2, if_pos e1, e2, Option.bind_some, q1, q2]
    rw [if_pos (by simp), if_pos trivial, entries_l1 3000 ns raw b l rs _ x (by omega) 3000 0 (by omega) (by omega) (by omega)]
    simp only [Option.bind_some, ew]
    have cont := ih (d ++ [r]) m (by rw [h1]; simp) (by omega)
    rw [show ((d ++ [r]).length : Int) = (d.length : Int) + 1 by simp] at cont
    exact cont
theorem entries_holds (F : Nat) (ns : List Int) (raw : List UInt8) (hF : F = 3000) : correctorlaw9_RowsEntries F ns raw = some true := by
  subst hF
  unfold correctorlaw9_RowsEntries
  rw [known9]
  simp only [Option.bind_some, if_true]
  obtain ⟨b, hb, hbl⟩ := text_wp ns raw
  rw [hb]
  simp only [Option.bind_some]
  obtain ⟨l, hl, t⟩ := toks_wp b hbl
  rw [hl]
  simp only [Option.bind_some]
  rw [(rows_ref t b).2]
  simp only [Option.bind_some]
  have n1 := order_len kP l [] 0 0 0
  have k1 := t.len
  simp only [List.length_nil, Nat.zero_add] at n1
  have hrs : ∀ r ∈ goR kP 0 [] 0 0 l, RowT l r := by
    intro r hr
    obtain ⟨p, c, s, g1, g2, g3, g4, g5⟩ := go_parts kP (l := l) l [] [] 0 0 rfl (by simp) r hr
    exact rowT t g1 g2 g3 g4 g5
  have := entries_l0 ns raw b l (goR kP 0 [] 0 0 l) t hrs (by omega) (goR kP 0 [] 0 0 l) [] 3000 rfl (by omega)
  simp only [List.length_nil, show ((0 : Nat) : Int) = 0 from rfl] at this
  rw [this]
  rfl
end Go.Proofs.Ytcnbcimnfeekjaa.M
