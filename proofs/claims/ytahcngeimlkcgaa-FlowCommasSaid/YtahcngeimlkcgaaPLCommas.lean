/- FlowCommas, plainly. -/
import Derived.Test.YtahcngeimlkcgaaQ5
import Derived.Test.YtahcngeimlkcgaaMC0
namespace Go.Proofs.Ytahcngeimlkcgaa.M
open Go Am Sy
set_option linter.unusedVariables false
set_option linter.unusedSimpArgs false
set_option maxRecDepth 100000
def ct : Bool → List Bool → List UInt8
 | _, [] => []
 | h, b :: l => if b && !h then 97 :: ct true l else 44 :: ct false l
def ck : Bool → List Bool → List Int
 | _, [] => []
 | h, b :: l => if b && !h then 15 :: ck true l else 7 :: ck false l
def cw : Bool → List Bool → Nat
 | _, [] => 0
 | h, b :: l => if b && !h then cw true l else (if h then 0 else 1) + cw false l
def ci : Bool → List Bool → Nat
 | _, [] => 0
 | h, b :: l => if b && !h then 1 + ci true l else ci false l
theorem ct_len : ∀ (l : List Bool) (h : Bool), (ct h l).length = l.length := by
 intro l
 induction l with
 | nil => intro h; rfl
 | cons b l ih => intro h; simp only [ct]; split <;> simp [ih]
theorem ck_len : ∀ (l : List Bool) (h : Bool), (ck h l).length = l.length := by
 intro l
 induction l with
 | nil => intro h; rfl
 | cons b l ih => intro h; simp only [ck]; split <;> simp [ih]
theorem cw_le : ∀ (l : List Bool) (h : Bool), cw h l ≤ l.length := by
 intro l
 induction l with
 | nil => intro h; exact Nat.le_refl _
 | cons b l ih =>
  intro h; simp only [cw, List.length_cons]
  have := ih true; have := ih false
  split
  ·omega
  ·cases h <;> simp <;> omega
theorem ci_le : ∀ (l : List Bool) (h : Bool), ci h l ≤ l.length := by
 intro l
 induction l with
 | nil => intro h; exact Nat.le_refl _
 | cons b l ih =>
  intro h; simp only [ci, List.length_cons]
  have := ih true; have := ih false
  split <;> omega
theorem ct_sc (B : List UInt8) (hn : B.length ≤ 900) : ∀ (l : List Bool) (h : Bool) (i : Nat), i ≠ 0 → B.drop i = ct h l ++ [93] → Sc 3000 B i 1 (ck h l ++ [10]) := by
 intro l
 induction l with
 | nil =>
  intro h i hi hb
  refine Sc.close (by omega) (c := 93) (Y := []) hb (.inl ⟨rfl, rfl⟩) (by omega) ?_
  rw [drop_nil hb]
  exact Sc.nil _ _ _
 | cons b l ih =>
  intro h i hi hb
  simp only [ct, ck] at hb ⊢
  by_cases c : (b && !h) = true
  ·rw [if_pos c] at hb ⊢
   refine Sc.plain (by omega) (by omega) (c := 97) hb (by decide) (.inl ?_) (ih true (i + 1) (by omega) (drop1 hb))
   cases l with
   | nil => exact ⟨93, [], rfl, by omega, .inr (.inl rfl)⟩
   | cons b' l => exact ⟨44, _, by simp only [ct, Bool.not_true, Bool.and_false, Bool.false_eq_true, if_false]; rfl, by omega, .inl rfl⟩
  ·rw [if_neg c] at hb ⊢
   exact Sc.comma (by omega) hb (by omega) (ih false (i + 1) (by omega) (drop1 hb))
def c7 (S : List (Int × Bool)) : Nat := S.countP fun x => x.1 == 7
theorem c7_app (a b : List (Int × Bool)) : c7 (a ++ b) = c7 a + c7 b := List.countP_append
theorem commas_loop (rec : Rec) (a0 : flow_reader) {K : List Int} (hK : K.length ≤ 900) : ∀ (l : List Bool) (h : Bool) (m : Nat) (r : flow_reader) (p : Nat) (S : List (Int × Bool)) (q : Nat), l.length < m → St K 1 r p S q → K.drop p = ck h l ++ [10] → S.length + l.length ≤ 2000 → q + l.length ≤ 2000 →
  ∃ r' S', flow_reader_collection_l0 3000 (flow_reader_value_b 3000 rec) a0 0 0 0 9 m r ((1 : Nat) : Int) (p : Int) 9 10 h = some (((1 : Nat) : Int), (K.length : Int), r') ∧ St K 1 r' K.length S' (q + cw h l) ∧ c7 S' = c7 S + ci h l ∧ S'.length ≤ S.length + l.length := by
 intro l
 induction l with
 | nil =>
  intro h m r p S q hm hst hd hS hq
  obtain ⟨m, rfl⟩ : ∃ n, m = n + 1 := ⟨m - 1, by simp at hm; omega⟩
  have hk := kx_at hd
  have hlen := drop_nil hd
  simp only [List.length_nil] at hS hq
  obtain ⟨r', l1, l2⟩ := lp_end (F := 3000) (by omega) (flow_reader_value_b 3000 rec) a0 0 0 0 9 m hst (by omega) (past_here (by omega) hst (.inr (by rw [hk]; rfl))) (Nat.le_refl p) (by omega) (kind := 9) (endk := 10) (.inl rfl) hk h
  rw [hlen] at l1 l2
  exact ⟨r', S, l1, l2, rfl, Nat.le_refl _⟩
 | cons b l ih =>
  intro h m r p S q hm hst hd hS hq
  obtain ⟨m, rfl⟩ : ∃ n, m = n + 1 := ⟨m - 1, by simp at hm; omega⟩
  simp only [List.length_cons] at hm hS hq
  simp only [ck, cw, ci] at hd ⊢
  by_cases c : (b && !h) = true
  ·rw [if_pos c] at hd
   rw [if_pos c, if_pos c]
   have hh : h = false := by cases h <;> simp at c ⊢
   subst hh
   have hk := kx_at hd
   have hd1 := drop1 hd
   have hp : p < K.length := lt_of_get (drop0 hd)
   have hk1 : kx K (p + 1) = 7 ∨ kx K (p + 1) = 10 := by
    cases l with
    | nil => exact .inr (kx_at hd1)
    | cons b' l => exact .inl (kx_at (by rw [hd1]; simp only [ck, Bool.not_true, Bool.and_false, Bool.false_eq_true, if_false]; rfl))
   have hkey : flow_reader_key 3000 r (p : Int) = some (-1) := by
    rw [key_name (by omega) hst (by omega) (.inl hk) (.inr (by rcases hk1 with hk1 | hk1 <;> rw [hk1] <;> rfl)), if_neg (by omega)]
   obtain ⟨r1, o1, o2⟩ := one_seq (F := 3000) (by omega) rec (9 - 1) hst (by omega) (Nat.le_refl p) hp hk
   have hstep := (lp_item (F := 3000) (by omega) (flow_reader_value_b 3000 rec) a0 0 0 0 9 (by omega) m hst (past_here (by omega) hst (.inr (by rw [hk]; rfl))) (kind := 9) (endk := 10) (.inl rfl) (.inl hk) hkey).2 _ _ _ (by omega) o1
   obtain ⟨r', S', e1, e2, e3, e4⟩ := ih true m r1 (p + 1) (S ++ [(7, false)]) q (by omega) o2 hd1 (by rw [List.length_append, List.length_singleton]; omega) (by omega)
   rw [List.length_append, List.length_singleton] at e4
   refine ⟨r', S', hstep.trans e1, e2, ?_, by simp only [List.length_cons]; omega⟩
   rw [e3, c7_app]
   have : c7 [((7 : Int), false)] = 1 := rfl
   omega
  ·rw [if_neg c] at hd
   rw [if_neg c, if_neg c]
   have hk := kx_at hd
   have hd1 := drop1 hd
   have hp : p < K.length := lt_of_get (drop0 hd)
   have hpast := past_here (F := 3000) (by omega) hst (i := p) (.inr (by rw [hk]; rfl))
   cases h with
   | true =>
    have hstep := lp_comma (F := 3000) (by omega) (flow_reader_value_b 3000 rec) a0 0 0 0 9 m hst hpast hp (kind := 9) (endk := 10) (.inl rfl) hk
    obtain ⟨r', S', e1, e2, e3, e4⟩ := ih false m r (p + 1) S q (by omega) (hst.more (by omega)) hd1 (by omega) (by omega)
    refine ⟨r', S', hstep.trans e1, ?_, e3, by simp only [List.length_cons]; omega⟩
    simp only [if_true, Nat.zero_add]
    exact e2
   | false =>
    obtain ⟨r1, hstep, o2⟩ := lp_bad (F := 3000) (by omega) (flow_reader_value_b 3000 rec) a0 0 0 0 9 m hst (by omega) (by omega) hpast (Nat.le_refl p) hp (kind := 9) (endk := 10) (.inl rfl) hk
    obtain ⟨r', S', e1, e2, e3, e4⟩ := ih false m r1 (p + 1) (S ++ [(11, false)]) (q + 1) (by omega) o2 hd1 (by rw [List.length_append, List.length_singleton]; omega) (by omega)
    rw [List.length_append, List.length_singleton] at e4
    refine ⟨r', S', hstep.trans e1, ?_, ?_, by simp only [List.length_cons]; omega⟩
    ·simp only [Bool.false_eq_true, if_false]
     rw [← Nat.add_assoc]
     exact e2
    ·rw [e3, c7_app]
     have : c7 [((11 : Int), false)] = 0 := rfl
     omega
theorem commas_value (l : List Bool) (hl : l.length ≤ 20) : ∃ N D, correctorlaw11_value 3000 (⟨91 :: (ct false l ++ [93])⟩ : Str) = some (⟨N⟩, 1, ((l.length + 2 : Nat) : Int), D, ((l.length + 2 : Nat) : Int)) ∧ c7 (sg N) = ci false l ∧ N.length ≤ 100 ∧ D.length = cw false l := by
 have hn : (91 :: (ct false l ++ [93])).length ≤ 900 := by rw [List.length_cons, List.length_append, ct_len, List.length_singleton]; omega
 have hK : (8 :: (ck false l ++ [10])).length = l.length + 2 := by rw [List.length_cons, List.length_append, ck_len, List.length_singleton]
 have hsc : Sc 3000 (91 :: (ct false l ++ [93])) 0 0 (8 :: (ck false l ++ [10])) :=
  Sc.open (by omega) (c := 91) (Y := ct false l ++ [93]) rfl (.inl ⟨rfl, rfl⟩) (by omega) (ct_sc _ hn l false 1 (by omega) rfl)
 obtain ⟨N, D, v1, v2, v3⟩ := value_run (⟨91 :: (ct false l ++ [93])⟩ : Str) hn (8 :: (ck false l ++ [10])) (by omega) (kind := 9) (endk := 10) (.inl ⟨rfl, rfl, rfl⟩) hsc (fun S => c7 S = ci false l ∧ S.length ≤ 100) (cw false l) (by have := cw_le l false; omega) (fun rec a0 r hst => by
  obtain ⟨r', S', e1, e2, e3, e4⟩ := commas_loop rec a0 (by omega) l false 3000 r 1 [(1, false), (9, false)] 0 (by omega) hst rfl (by simp; omega) (by omega)
  rw [Nat.zero_add] at e2
  have e4' : S'.length ≤ 2 + l.length := e4
  refine ⟨r', S', e1, e2, ?_, by omega⟩
  rw [e3]
  have : c7 [((1 : Int), false), (9, false)] = 0 := rfl
  omega)
 rw [hK] at v1
 exact ⟨N, D, v1, v2.1, by have := v2.2; unfold sg at this; rwa [List.length_map] at this, v3⟩
theorem commas_l0 (F : Nat) (a : List Bool) : ∀ (rest : List Bool) (n i : Nat) (s : Str) (w k : Nat) (h : Bool), (a.take 20).drop i = rest → rest.length < n → w ≤ i → k ≤ i → s.b.length ≤ i + 1 → i ≤ 20 →
  correctorlaw11_FlowCommas_l0 F a n s (w : Int) (k : Int) h (i : Int) = some ((⟨s.b ++ ct h rest⟩ : Str), ((w + cw h rest : Nat) : Int), ((k + ci h rest : Nat) : Int)) := by
 intro rest
 induction rest with
 | nil =>
  intro n i s w k h hd hn hw hk hs hi
  obtain ⟨n, rfl⟩ : ∃ m, n = m + 1 := ⟨n - 1, by omega⟩
  have hlen := List.drop_eq_nil_iff.1 hd
  rw [List.length_take] at hlen
  have e : (⟨s.b ++ ct h []⟩ : Str) = s := by simp [ct]
  rw [correctorlaw11_FlowCommas_l0, e]
  by_cases c1 : (i : Int) < (a.length : Int)
  ·rw [if_pos c1, if_neg (by omega)]; rfl
  ·rw [if_neg c1]; rfl
 | cons b rest ih =>
  intro n i s w k h hd hn hw hk hs hi
  obtain ⟨n, rfl⟩ : ∃ m, n = m + 1 := ⟨n - 1, by omega⟩
  simp only [List.length_cons] at hn
  have hg := drop0 hd
  have hlt := lt_of_get hg
  rw [List.length_take] at hlt
  have hga : a[i]? = some b := by rw [List.getElem?_take] at hg; rw [if_pos (by omega)] at hg; exact hg
  have hw1 : w64 ((i : Int) + 1) = ((i + 1 : Nat) : Int) := w1n (by omega)
  have hww : w64 ((w : Int) + 1) = ((w + 1 : Nat) : Int) := w1n (by omega)
  have hwk : w64 ((k : Int) + 1) = ((k + 1 : Nat) : Int) := w1n (by omega)
  rw [correctorlaw11_FlowCommas_l0, if_pos (by omega), if_pos (by omega), if_pos (by omega), Int.toNat_natCast, hga, hw1]
  simp only [Option.bind_some, ct, cw, ci]
  by_cases c : (b && !h) = true
  ·obtain ⟨rfl, rfl⟩ : b = true ∧ h = false := by cases b <;> cases h <;> simp at c ⊢
   simp only [if_true, Bool.false_eq_true, if_false, Bool.not_false, Bool.and_self]
   rw [if_pos (by simp; omega)]
   simp only [Option.bind_some]
   rw [hwk, ih n (i + 1) ⟨s.b ++ [97]⟩ w (k + 1) true (drop1 hd) (by omega) (by omega) (by omega) (by show (s.b ++ [97]).length ≤ _; rw [List.length_append, List.length_singleton]; omega) (by omega)]
   simp only [List.append_assoc, List.singleton_append, Nat.add_assoc]
  ·rw [if_neg c, if_neg c, if_neg c]
   have hin : ((if b = true then
     if h = true then
      some (.inl ())
     else
      if s.b.length + ([97] : List UInt8).length ≤ 4611686018427387904 then
       some (.inr ((⟨s.b ++ [97]⟩ : Str), (w : Int), w64 ((k : Int) + 1), true))
      else none
    else
     some (.inl ())) : Option (Sum Unit (Str × Int × Int × Bool))) = some (.inl ()) := by
    cases b <;> cases h <;> simp at c ⊢
   rw [hin]
   simp only [Option.bind_some]
   rw [if_pos (by simp; omega)]
   cases h with
   | true =>
    simp only [if_true, Option.bind_some]
    rw [ih n (i + 1) ⟨s.b ++ [44]⟩ w k false (drop1 hd) (by omega) (by omega) (by omega) (by show (s.b ++ [44]).length ≤ _; rw [List.length_append, List.length_singleton]; omega) (by omega)]
    simp only [List.append_assoc, List.singleton_append, Nat.zero_add]
   | false =>
    simp only [Bool.false_eq_true, if_false, Option.bind_some]
    rw [hww, ih n (i + 1) ⟨s.b ++ [44]⟩ (w + 1) k false (drop1 hd) (by omega) (by omega) (by omega) (by show (s.b ++ [44]).length ≤ _; rw [List.length_append, List.length_singleton]; omega) (by omega)]
    simp only [List.append_assoc, List.singleton_append, Nat.add_assoc]
theorem commas_l1 (F : Nat) (a0 : List Bool) (w : Int) (N : List api_Node) (hN : N.length ≤ 100000) : ∀ (d n i c : Nat), i + d = N.length → d < n → c ≤ i → correctorlaw11_FlowCommas_l1 F a0 n w N (c : Int) (i : Int) = some (w, ((c + c7 (sg (N.drop i)) : Nat) : Int)) := by
 intro d
 induction d with
 | zero =>
  intro n i c h1 h2 h3
  obtain ⟨n, rfl⟩ : ∃ m, n = m + 1 := ⟨n - 1, by omega⟩
  rw [correctorlaw11_FlowCommas_l1, if_neg (by omega), List.drop_eq_nil_of_le (by omega)]
  rfl
 | succ d ih =>
  intro n i c h1 h2 h3
  obtain ⟨n, rfl⟩ : ∃ m, n = m + 1 := ⟨n - 1, by omega⟩
  have hi : i < N.length := by omega
  rw [correctorlaw11_FlowCommas_l1, if_pos (by omega), if_pos (by omega), Int.toNat_natCast, List.getElem?_eq_getElem hi, List.drop_eq_getElem_cons hi]
  simp only [Option.bind_some]
  have he : c7 (sg (N[i] :: N.drop (i + 1))) = (if N[i].Kind = 7 then 1 else 0) + c7 (sg (N.drop (i + 1))) := by
   unfold c7 sg
   rw [List.map_cons, List.countP_cons]
   by_cases e : N[i].Kind = 7 <;> simp [e]; omega
  rw [he]
  by_cases e : N[i].Kind = 7
  ·rw [if_pos e, if_pos e, w1n (by omega)]
   simp only [Option.bind_some]
   rw [w1n (by omega), ih n (i + 1) (c + 1) (by omega) (by omega) (by omega)]
   congr 3; omega
  ·rw [if_neg e, if_neg e]
   simp only [Option.bind_some]
   rw [w1n (by omega), ih n (i + 1) c (by omega) (by omega) (by omega), Nat.zero_add]
theorem commas_holds (F : Nat) (a : List Bool) (hF : F = 3000) : correctorlaw11_FlowCommas F a = some true := by
 subst hF
 have hl : (a.take 20).length ≤ 20 := by rw [List.length_take]; omega
 have l0 := commas_l0 3000 a (a.take 20) 3000 0 ⟨[91]⟩ 0 0 false rfl (by omega) (by omega) (by omega) (by decide) (by omega)
 obtain ⟨N, D, v1, v2, vl, v3⟩ := commas_value (a.take 20) hl
 rw [Nat.zero_add, Nat.zero_add, show ((0 : Nat) : Int) = 0 from rfl] at l0
 have l1 := commas_l1 3000 a ((ci false (a.take 20) : Nat) : Int) N (by omega) N.length 3000 0 0 (by omega) (by omega) (by omega)
 rw [Nat.zero_add, List.drop_zero, v2, show ((0 : Nat) : Int) = 0 from rfl] at l1
 have hct : (⟨[91]⟩ : Str).b ++ ct false (a.take 20) = 91 :: ct false (a.take 20) := rfl
 unfold correctorlaw11_FlowCommas
 rw [known_eq]
 simp only [Option.bind_some, if_true]
 rw [l0]
 simp only [Option.bind_some]
 rw [hct, if_pos (by simp [ct_len]; omega)]
 have hcc : (91 :: ct false (a.take 20)) ++ [93] = 91 :: (ct false (a.take 20) ++ [93]) := rfl
 rw [hcc, v1]
 simp only [Option.bind_some]
 rw [if_pos trivial, if_pos trivial, if_pos (by rw [v3]), l1]
 simp only [Option.bind_some]
 rw [if_pos trivial]
end Go.Proofs.Ytahcngeimlkcgaa.M
