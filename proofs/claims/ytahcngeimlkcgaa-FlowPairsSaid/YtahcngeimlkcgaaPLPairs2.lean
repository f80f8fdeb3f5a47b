/- FlowPairs, plainly: the law. -/
import Derived.Test.YtahcngeimlkcgaaPLPairs
namespace Go.Proofs.Ytahcngeimlkcgaa.M
open Go Am Sy
set_option linter.unusedVariables false
set_option linter.unusedSimpArgs false
set_option maxRecDepth 100000
def f4 (x : Int) : Fin 4 := ⟨(wi x 4).toNat, by have := wi_range x 4 (by decide); omega⟩
theorem f4_cases (x : Int) : (wi x 4 = 0 ∧ f4 x = 0) ∨ (wi x 4 = 1 ∧ f4 x = 1) ∨ (wi x 4 = 2 ∧ f4 x = 2) ∨ (wi x 4 = 3 ∧ f4 x = 3) := by
 have := wi_range x 4 (by decide)
 rcases (by omega : wi x 4 = 0 ∨ wi x 4 = 1 ∨ wi x 4 = 2 ∨ wi x 4 = 3) with h | h | h | h
 ·exact .inl ⟨h, Fin.ext (by show (wi x 4).toNat = 0; omega)⟩
 ·exact .inr (.inl ⟨h, Fin.ext (by show (wi x 4).toNat = 1; omega)⟩)
 ·exact .inr (.inr (.inl ⟨h, Fin.ext (by show (wi x 4).toNat = 2; omega)⟩))
 ·exact .inr (.inr (.inr ⟨h, Fin.ext (by show (wi x 4).toNat = 3; omega)⟩))
theorem imin_take (a : List Int) : imin (a.length : Int) 12 = ((a.take 12).length : Int) := by
 rw [List.length_take]; unfold imin; split <;> omega
theorem pairs_l0 (F : Nat) (a : List Int) : ∀ (rest : List Int) (n i : Nat) (s : Str) (w k : Nat), (a.take 12).drop i = rest → rest.length < n → w ≤ i → k ≤ i → s.b.length ≤ 7 * i → i ≤ 12 →
  correctorlaw11_FlowPairs_l0 F a n s (w : Int) (k : Int) (i : Int) = some ((⟨s.b ++ (if i = 0 then bt (rest.map f4) else tt (rest.map f4))⟩ : Str), ((w + np (rest.map f4) : Nat) : Int), ((k + nk (rest.map f4) : Nat) : Int)) := by
 intro rest
 induction rest with
 | nil =>
  intro n i s w k hd hn hw hk hs hi
  obtain ⟨n, rfl⟩ : ∃ m, n = m + 1 := ⟨n - 1, by omega⟩
  have hlen := List.drop_eq_nil_iff.1 hd
  have e : (⟨s.b ++ (if i = 0 then bt (([] : List Int).map f4) else tt (([] : List Int).map f4))⟩ : Str) = s := by
   have : (if i = 0 then bt (([] : List Int).map f4) else tt (([] : List Int).map f4)) = [] := by split <;> rfl
   rw [this, List.append_nil]
  rw [correctorlaw11_FlowPairs_l0, e, imin_take, if_neg (by omega)]
  rfl
 | cons b rest ih =>
  intro n i s w k hd hn hw hk hs hi
  obtain ⟨n, rfl⟩ : ∃ m, n = m + 1 := ⟨n - 1, by omega⟩
  simp only [List.length_cons] at hn
  have hg := drop0 hd
  have hlt := lt_of_get hg
  have hlt' := hlt
  rw [List.length_take] at hlt'
  have hga : a[i]? = some b := by rw [List.getElem?_take] at hg; rw [if_pos (by omega)] at hg; exact hg
  have hw1 : w64 ((i : Int) + 1) = ((i + 1 : Nat) : Int) := w1n (by omega)
  have hww : w64 ((w : Int) + 1) = ((w + 1 : Nat) : Int) := w1n (by omega)
  have hwk : w64 ((k : Int) + 1) = ((k + 1 : Nat) : Int) := w1n (by omega)
  have hr := wi_range b 4 (by decide)
  have hit : ([(⟨[97]⟩ : Str), (⟨[98, 58, 32, 99]⟩ : Str), (⟨[58, 32, 100]⟩ : Str), (⟨[39, 101, 39, 58, 32]⟩ : Str)])[(wi b 4).toNat]? = some ⟨it (f4 b)⟩ := by
   rcases f4_cases b with ⟨h1, h2⟩ | ⟨h1, h2⟩ | ⟨h1, h2⟩ | ⟨h1, h2⟩ <;> rw [h1, h2] <;> rfl
  have hpw : ((if (0 : Int) < wi b 4 then some ((w + 1 : Nat) : Int) else some (w : Int)) : Option Int) = some ((w + pw (f4 b) : Nat) : Int) := by
   rcases f4_cases b with ⟨h1, h2⟩ | ⟨h1, h2⟩ | ⟨h1, h2⟩ | ⟨h1, h2⟩ <;> rw [h1, h2] <;> rfl
  have hkw : ((if wi b 4 = (2 : Int) then some (k : Int) else some ((k + 1 : Nat) : Int)) : Option Int) = some ((k + kw (f4 b) : Nat) : Int) := by
   rcases f4_cases b with ⟨h1, h2⟩ | ⟨h1, h2⟩ | ⟨h1, h2⟩ | ⟨h1, h2⟩ <;> rw [h1, h2] <;> rfl
  have hil := it_len (f4 b)
  have hp1 : pw (f4 b) ≤ 1 := by generalize f4 b = k; revert k; decide
  have hk1 : kw (f4 b) ≤ 1 := by generalize f4 b = k; revert k; decide
  have hpre : ((if (0 : Int) < (i : Int) then
    if s.b.length + ([44, 32] : List UInt8).length ≤ 4611686018427387904 then
     some (⟨s.b ++ [44, 32]⟩ : Str)
    else none
   else
    some s) : Option Str) = some (⟨s.b ++ (if i = 0 then [] else [44, 32])⟩ : Str) := by
   by_cases c : i = 0
   ·rw [if_neg (by omega), if_pos c, List.append_nil]
   ·rw [if_pos (by omega), if_neg c, if_pos (by simp; omega)]
  have hpl : (s.b ++ (if i = 0 then ([] : List UInt8) else [44, 32])).length ≤ 7 * i + 2 := by
   rw [List.length_append]; split <;> simp <;> omega
  rw [correctorlaw11_FlowPairs_l0, imin_take, if_pos (by omega), hpre]
  simp only [Option.bind_some]
  rw [if_pos (by omega), Int.toNat_natCast, hga]
  simp only [Option.bind_some]
  rw [within_eq F b 4 (by decide) (by decide)]
  simp only [Option.bind_some]
  rw [if_pos (by exact hr), hit]
  simp only [Option.bind_some]
  rw [if_pos (by show (s.b ++ (if i = 0 then ([] : List UInt8) else [44, 32])).length + (it (f4 b)).length ≤ _; omega), hww, hwk, hpw]
  simp only [Option.bind_some]
  rw [hkw]
  simp only [Option.bind_some]
  have hs' : (s.b ++ (if i = 0 then ([] : List UInt8) else [44, 32]) ++ it (f4 b)).length ≤ 7 * (i + 1) := by
   rw [List.length_append]; omega
  rw [hw1, ih n (i + 1) ⟨s.b ++ (if i = 0 then [] else [44, 32]) ++ it (f4 b)⟩ (w + pw (f4 b)) (k + kw (f4 b)) (drop1 hd) (by omega) (by omega) (by omega) hs' (by omega)]
  rw [if_neg (by omega : ¬ i + 1 = 0)]
  simp only [List.map_cons, np, nk, bt, tt, Nat.add_assoc]
  have e : s.b ++ (if i = 0 then ([] : List UInt8) else [44, 32]) ++ it (f4 b) ++ tt (rest.map f4) = s.b ++ (if i = 0 then it (f4 b) ++ tt (rest.map f4) else 44 :: 32 :: (it (f4 b) ++ tt (rest.map f4))) := by
   by_cases c : i = 0
   ·rw [if_pos c, if_pos c]; simp
   ·rw [if_neg c, if_neg c]; simp
  rw [e]
theorem pairs_l1 (F : Nat) (a0 : List Int) (x y : Int) (N U : List api_Node) (hN : N.length ≤ 100000) : ∀ (d n i a c : Nat), i + d = N.length → d < n → a ≤ i → c ≤ i → correctorlaw11_FlowPairs_l1 F a0 n x y N U (a : Int) (c : Int) (i : Int) = some (x, y, U, ((a + c6 (sg (N.drop i)) : Nat) : Int), ((c + c6k (sg (N.drop i)) : Nat) : Int)) := by
 intro d
 induction d with
 | zero =>
  intro n i a c h1 h2 h3 h4
  obtain ⟨n, rfl⟩ : ∃ m, n = m + 1 := ⟨n - 1, by omega⟩
  rw [correctorlaw11_FlowPairs_l1, if_neg (by omega), List.drop_eq_nil_of_le (by omega)]
  rfl
 | succ d ih =>
  intro n i a c h1 h2 h3 h4
  obtain ⟨n, rfl⟩ : ∃ m, n = m + 1 := ⟨n - 1, by omega⟩
  have hi : i < N.length := by omega
  rw [correctorlaw11_FlowPairs_l1, if_pos (by omega), if_pos (by omega), Int.toNat_natCast, List.getElem?_eq_getElem hi, List.drop_eq_getElem_cons hi]
  simp only [Option.bind_some]
  have he : c6 (sg (N[i] :: N.drop (i + 1))) = (if N[i].Kind = 6 then 1 else 0) + c6 (sg (N.drop (i + 1))) := by
   unfold c6 sg
   rw [List.map_cons, List.countP_cons]
   by_cases e : N[i].Kind = 6 <;> simp [e]; omega
  have hk : c6k (sg (N[i] :: N.drop (i + 1))) = (if N[i].Kind = 6 then (if N[i].Key = true then 1 else 0) else 0) + c6k (sg (N.drop (i + 1))) := by
   unfold c6k sg
   rw [List.map_cons, List.countP_cons]
   by_cases e : N[i].Kind = 6 <;> by_cases e2 : N[i].Key = true <;> simp [e, e2]; omega
  rw [he, hk]
  by_cases e : N[i].Kind = 6
  ·rw [if_pos e, if_pos e, if_pos e, if_pos (by omega)]
   by_cases e2 : N[i].Key = true
   ·rw [if_pos e2, if_pos e2]
    simp only [Option.bind_some]
    rw [w1n (i := a) (by omega), w1n (i := c) (by omega), w1n (i := i) (by omega), ih n (i + 1) (a + 1) (c + 1) (by omega) (by omega) (by omega) (by omega)]
    simp only [Nat.add_assoc]
   ·rw [if_neg e2, if_neg e2]
    simp only [Option.bind_some]
    rw [w1n (i := a) (by omega), w1n (i := i) (by omega), ih n (i + 1) (a + 1) c (by omega) (by omega) (by omega) (by omega)]
    simp only [Nat.add_assoc, Nat.zero_add]
  ·rw [if_neg e, if_neg e, if_neg e]
   simp only [Option.bind_some]
   rw [w1n (by omega), ih n (i + 1) a c (by omega) (by omega) (by omega) (by omega), Nat.zero_add, Nat.zero_add]
theorem pairs_l2 (F : Nat) (a0 : List Int) (x y z v : Int) (N : List api_Node) (hN : N.length ≤ 100000) : ∀ (d n i a : Nat), i + d = N.length → d < n → a ≤ i → correctorlaw11_FlowPairs_l2 F a0 n x y N z (a : Int) v (i : Int) = some (x, y, z, ((a + c6 (sg (N.drop i)) : Nat) : Int), v) := by
 intro d
 induction d with
 | zero =>
  intro n i a h1 h2 h3
  obtain ⟨n, rfl⟩ : ∃ m, n = m + 1 := ⟨n - 1, by omega⟩
  rw [correctorlaw11_FlowPairs_l2, if_neg (by omega), List.drop_eq_nil_of_le (by omega)]
  rfl
 | succ d ih =>
  intro n i a h1 h2 h3
  obtain ⟨n, rfl⟩ : ∃ m, n = m + 1 := ⟨n - 1, by omega⟩
  have hi : i < N.length := by omega
  rw [correctorlaw11_FlowPairs_l2, if_pos (by omega), if_pos (by omega), Int.toNat_natCast, List.getElem?_eq_getElem hi, List.drop_eq_getElem_cons hi]
  simp only [Option.bind_some]
  have he : c6 (sg (N[i] :: N.drop (i + 1))) = (if N[i].Kind = 6 then 1 else 0) + c6 (sg (N.drop (i + 1))) := by
   unfold c6 sg
   rw [List.map_cons, List.countP_cons]
   by_cases e : N[i].Kind = 6 <;> simp [e]; omega
  rw [he]
  by_cases e : N[i].Kind = 6
  ·rw [if_pos e, if_pos e, w1n (by omega)]
   simp only [Option.bind_some]
   rw [w1n (by omega), ih n (i + 1) (a + 1) (by omega) (by omega) (by omega)]
   simp only [Nat.add_assoc]
  ·rw [if_neg e, if_neg e]
   simp only [Option.bind_some]
   rw [w1n (by omega), ih n (i + 1) a (by omega) (by omega) (by omega), Nat.zero_add]
theorem pairs_holds (F : Nat) (a : List Int) (hF : F = 3000) : correctorlaw11_FlowPairs F a = some true := by
 subst hF
 have hl : (a.take 12).length ≤ 12 := by rw [List.length_take]; omega
 have hlm : ((a.take 12).map f4).length = (a.take 12).length := List.length_map _
 have l0 := pairs_l0 3000 a (a.take 12) 3000 0 ⟨[]⟩ 0 0 rfl (by omega) (by omega) (by omega) (by decide) (by omega)
 rw [Nat.zero_add, Nat.zero_add, if_pos rfl, show ((0 : Nat) : Int) = 0 from rfl] at l0
 generalize hfs : (a.take 12).map f4 = fs at *
 obtain ⟨N, D, n1, v1, v2, v3⟩ := pairs_value fs (by omega) (o := 123) (e := 125) (kind := 10) (ek := 11) (ok := 9) (nd := nm) (.inr ⟨rfl, rfl, rfl, rfl, rfl, rfl⟩)
 obtain ⟨U, E, n2, u1, u2, u3⟩ := pairs_value fs (by omega) (o := 91) (e := 93) (kind := 9) (ek := 10) (ok := 8) (nd := ns) (.inl ⟨rfl, rfl, rfl, rfl, rfl, rfl⟩)
 obtain ⟨f1, f2, f3, f4', f5, f6, f7⟩ := fl_c6 fs
 have hNl : N.length ≤ 100 := by have := congrArg List.length v2; unfold sg at this; rw [List.length_map] at this; simp only [List.length_cons] at this; omega
 have hUl : U.length ≤ 100 := by have := congrArg List.length u2; unfold sg at this; rw [List.length_map] at this; simp only [List.length_cons] at this; omega
 have g1 : c6 (sg N) = fs.length := by rw [v2]; exact f1
 have g2 : c6k (sg N) = nk fs := by rw [v2]; exact f2
 have g3 : c6 (sg U) = np fs := by rw [u2]; exact f3
 have l1 := pairs_l1 3000 a ((np fs : Nat) : Int) ((nk fs : Nat) : Int) N U (by omega) N.length 3000 0 0 0 (by omega) (by omega) (by omega) (by omega)
 have l2 := pairs_l2 3000 a ((np fs : Nat) : Int) ((nk fs : Nat) : Int) ((fs.length : Nat) : Int) ((nk fs : Nat) : Int) U (by omega) U.length 3000 0 0 (by omega) (by omega) (by omega)
 rw [List.drop_zero, Nat.zero_add, Nat.zero_add, g1, g2, show ((0 : Nat) : Int) = 0 from rfl] at l1
 rw [List.drop_zero, Nat.zero_add, g3, show ((0 : Nat) : Int) = 0 from rfl] at l2
 have hbl := bt_len fs
 have hct : ((⟨[]⟩ : Str).b ++ bt fs) = bt fs := rfl
 unfold correctorlaw11_FlowPairs
 rw [known_eq]
 simp only [Option.bind_some, if_true]
 rw [l0]
 simp only [Option.bind_some]
 rw [hct, if_pos (by simp; omega), if_pos (by simp; omega)]
 have h1 : ([123] ++ bt fs) ++ [125] = 123 :: (bt fs ++ [125]) := rfl
 have h2 : ([91] ++ bt fs) ++ [93] = 91 :: (bt fs ++ [93]) := rfl
 rw [h1, v1]
 simp only [Option.bind_some]
 rw [if_pos (by simp; omega), if_pos (by simp; omega), h2, u1]
 simp only [Option.bind_some]
 rw [if_pos trivial, if_pos trivial, if_pos (by omega), if_pos (by omega), l1]
 simp only [Option.bind_some]
 rw [l2]
 simp only [Option.bind_some]
 rw [imin_take, if_pos (by omega), if_pos trivial, if_pos trivial]
end Go.Proofs.Ytahcngeimlkcgaa.M
