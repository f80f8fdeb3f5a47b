/- Rows, plainly: what rows tokens have. -/
import Derived.Test.YtcnbcimnfeekjaaP9W
namespace Go.Proofs.Ytcnbcimnfeekjaa.M
open Go Am Sy
set_option linter.unusedVariables false
set_option linter.unusedSimpArgs false
set_option maxRecDepth 100000
theorem get_mid {α : Type} (p s : List α) (x : α) : (p ++ x :: s)[((p.length : Int)).toNat]? = some x := by simp
theorem mid_lt {α : Type} (p s : List α) (x : α) : (0 : Int) ≤ (p.length : Int) ∧ (p.length : Int) < ((p ++ x :: s).length : Int) := by simp; omega
theorem get_mid2 {α : Type} (p c s : List α) (x : α) : (p ++ c ++ x :: s)[((p.length : Int) + (c.length : Int)).toNat]? = some x := by
  have : ((p.length : Int) + (c.length : Int)).toNat = (p ++ c).length := by simp; omega
  rw [this]; simp
theorem mid_lt2 {α : Type} (p c s : List α) (x : α) : (0 : Int) ≤ (p.length : Int) + (c.length : Int) ∧ (p.length : Int) + (c.length : Int) < ((p ++ c ++ x :: s).length : Int) := by simp; omega
def endK (k : Int) : Bool := k == 1 || k == 19
def brk (k o : Int) : Int := if k = 8 ∨ k = 9 then o + 1 else if k = 10 ∨ k = 11 then (if 0 > o - 1 then 0 else o - 1) else if k = 20 ∨ k = 21 then 0 else o
theorem brk_range {k o n : Int} (h : 0 ≤ o ∧ o ≤ n) : 0 ≤ brk k o ∧ brk k o ≤ n + 1 := by
  unfold brk
  repeat' split
  all_goals omega
def fc (c : List api_Token) : Option api_Token := c.find? (fun t => cnt t.Kind)
def hd (c : List api_Token) : Int := match c with | [] => 0 | t :: _ => t.From
def hk (c : List api_Token) : Int := match c with | [] => 0 | t :: _ => t.Kind
def colP (c : List api_Token) : Int := match fc c with | some t => t.From - hd c | none => -1
def k0 (c : List api_Token) : Int := match fc c with | some t => if t.Kind = 20 ∨ t.Kind = 21 then 4 else 5 | none => 1
def kP (c : List api_Token) (o : Int) : Int := if hk c = 19 then 2 else if 0 < o then (if hk c = 20 ∨ hk c = 21 then k0 c else 3) else k0 c
def kR (c : List api_Token) (o : Int) : Int := if hk c = 19 then 2 else if 0 < o then (if k0 c = 4 then k0 c else 3) else k0 c
def goR (K : List api_Token → Int → Int) : Int → List api_Token → Int → Int → List api_Token → List api_Row
  | f, c, o, n, [] => if c = [] then [] else [⟨K c o, f, f + c.length, colP c⟩]
  | f, c, o, n, t :: s => if endK t.Kind = true then ⟨K (c ++ [t]) o, f, f + (c ++ [t]).length, colP (c ++ [t])⟩ :: goR K (f + (c ++ [t]).length) [] (brk t.Kind n) (brk t.Kind n) s
      else goR K f (c ++ [t]) o (brk t.Kind n) s
def Small (l : List api_Token) : Prop := ∀ t ∈ l, 0 ≤ t.From ∧ t.From ≤ 20000
theorem rcounts_eq (F : Nat) (t : api_Token) : rows_counts F t = some (cnt t.Kind) := by
  unfold rows_counts cnt
  repeat' split
  all_goals simp_all
theorem brackets_eq (F : Nat) (t : api_Token) (o : Int) (h : 0 ≤ o ∧ o ≤ 100000) : rows_brackets F t o = some (brk t.Kind o) := by
  unfold rows_brackets brk
  rw [w64_eq (by omega) (by omega), w64_eq (by omega) (by omega)]
  by_cases h1 : t.Kind = 8
  · simp [h1]
  by_cases h2 : t.Kind = 9
  · simp [h2]
  by_cases h3 : t.Kind = 10
  · simp [h3]
  by_cases h4 : t.Kind = 11
  · simp [h4]
  by_cases h5 : t.Kind = 20
  · simp [h5]
  by_cases h6 : t.Kind = 21
  · simp [h6]
  simp [h1, h2, h3, h4, h5, h6]
theorem kind_l0 (F : Nat) (l : List api_Token) (r : api_Row) (o : Int) (c : List api_Token) (hs : Small l) (hsub : ∀ t ∈ c, t ∈ l)
    (hc : (l.take r.To.toNat).drop r.From.toNat = c) (hr : 0 ≤ r.From ∧ r.From < l.length) (hb : (l[r.From.toNat]?).map (·.From) = some (hd c)) (hn : c.length ≤ 20000) : ∀ (s p : List api_Token) (m : Nat), c = p ++ s → fc p = none → s.length < m →
    rows_kind_l0 F l r o m r c (p.length : Int) = some (r, k0 c, colP c) := by
  intro s
  induction s with
  | nil =>
    intro p m h1 h2 h3
    obtain ⟨m, rfl⟩ : ∃ k, m = k + 1 := ⟨m - 1, by omega⟩
    rw [rows_kind_l0, hc, if_neg (by subst h1; simp)]
    have : fc c = none := by rw [h1]; simpa using h2
    simp [k0, colP, this]
  | cons t s ih =>
    intro p m h1 h2 h3
    obtain ⟨m, rfl⟩ : ∃ k, m = k + 1 := ⟨m - 1, by omega⟩
    simp only [List.length_cons] at h3
    rw [rows_kind_l0, hc]
    have e1 := mid_lt p s t
    have e2 := get_mid p s t
    rw [← h1] at e1 e2
    rw [if_pos e1.2, if_pos e1, e2]
    simp only [Option.bind_some, rcounts_eq]
    by_cases hk : cnt t.Kind = true
    · rw [if_pos hk]
      unfold rows_begin
      rw [if_pos hr]
      obtain ⟨u, hu⟩ : ∃ u, l[r.From.toNat]? = some u := ⟨l[r.From.toNat]'(by omega), by simp⟩
      rw [hu] at hb ⊢
      simp only [Option.map_some] at hb
      injection hb with hb
      have hf : fc c = some t := by
        unfold fc at h2 ⊢
        rw [h1, List.find?_append, h2]; simp [hk]
      have hum : u ∈ l := List.mem_of_getElem? hu
      have htm : t ∈ l := hsub t (by rw [h1]; simp)
      have := hs u hum
      have := hs t htm
      simp only [Option.bind_some, hb]
      rw [w64_eq (by omega) (by omega)]
      unfold k0 colP
      rw [hf]
      dsimp only
      by_cases h20 : t.Kind = 20
      · simp [h20]
      · by_cases h21 : t.Kind = 21
        · simp [h21]
        · simp [h20, h21]
    · rw [if_neg hk]
      have : c.length = p.length + s.length + 1 := by rw [h1]; simp; omega
      rw [w64_eq (by omega) (by omega)]
      have := ih (p ++ [t]) m (by rw [h1]; simp) (by unfold fc at h2 ⊢; rw [List.find?_append, h2]; simp [hk]) (by omega)
      simp only [List.length_append, List.length_cons, List.length_nil] at this
      exact this
theorem kind_eq (F : Nat) (l p c s : List api_Token) (kk cc o : Int) (h : l = p ++ c ++ s) (hc : c ≠ []) (hs : Small l) (hn : l.length ≤ 20000) (hF : l.length + 10 < F) :
    rows_kind F l ⟨kk, (p.length : Int), (p.length : Int) + (c.length : Int), cc⟩ o = some (kP c o, colP c) := by
  have hp : 0 < c.length := List.length_pos_iff.2 hc
  have hl : l.length = p.length + c.length + s.length := by rw [h]; simp; omega
  have hcut : (l.take ((p.length : Int) + (c.length : Int)).toNat).drop ((p.length : Int)).toNat = c := by
    have e1 : ((p.length : Int) + (c.length : Int)).toNat = (p ++ c).length := by simp; omega
    have e2 : ((p.length : Int)).toNat = p.length := by simp
    rw [e1, e2, h, List.take_left, List.drop_left]
  obtain ⟨t, c', rfl⟩ : ∃ t c', c = t :: c' := by
    cases c with
    | nil => exact absurd rfl hc
    | cons t c' => exact ⟨t, c', rfl⟩
  have hg : l[((p.length : Int)).toNat]? = some t := by rw [h]; simp
  unfold rows_kind
  rw [if_pos ⟨by dsimp only; omega, by dsimp only; omega, by dsimp only; omega⟩]
  have := kind_l0 F l ⟨kk, (p.length : Int), (p.length : Int) + ((t :: c').length : Int), cc⟩ o (t :: c') hs (fun x hx => by rw [h]; exact List.mem_append_left _ (List.mem_append_right _ hx)) hcut ⟨by dsimp only; omega, by dsimp only; omega⟩
    (by dsimp only; rw [hg]; rfl) (by omega) (t :: c') [] F rfl rfl (by omega)
  dsimp only [List.length_nil] at this ⊢
  rw [hcut]
  rw [show ((0 : Nat) : Int) = 0 from rfl] at this
  rw [this]
  simp only [Option.bind_some]
  rw [if_pos ⟨by omega, by omega⟩, hg]
  simp only [Option.bind_some]
  unfold kP hk
  dsimp only
  by_cases h19 : t.Kind = 19
  · simp [h19]
  · by_cases ho : 0 < o
    · by_cases h20 : t.Kind = 20
      · simp [h20, ho]
      · by_cases h21 : t.Kind = 21
        · simp [h21, ho]
        · simp [h19, h20, h21, ho]
    · simp [h19, ho]
theorem rows1_eq (F : Nat) (l p c s : List api_Token) (o now to : Int) (out : List api_Row) (h : l = p ++ c ++ s) (hc : c ≠ []) (hs : Small l) (hn : l.length ≤ 20000) (hF : l.length + 10 < F) (ho : out.length ≤ 20000)
    (ht : to = (p.length : Int) + (c.length : Int)) : rows_Rows_1 F to p.length l o out now = some (to, now, out ++ [⟨kP c o, p.length, to, colP c⟩]) := by
  subst ht
  unfold rows_Rows_1
  rw [kind_eq F l p c s 0 0 o h hc hs hn hF]
  simp only [Option.bind_some]
  rw [if_pos (by simp; omega)]
theorem rows_l0 (F : Nat) (b : List UInt8) (l : List api_Token) (hs : Small l) (hn : l.length ≤ 20000) (hF : l.length + 10 < F) : ∀ (s p c : List api_Token) (m : Nat) (out : List api_Row) (now o : Int),
    l = p ++ c ++ s → s.length < m → 0 ≤ now ∧ now ≤ (p.length : Int) + (c.length : Int) → out.length ≤ p.length →
    rows_Rows_l0 F b l m out p.length now o ((p.length : Int) + (c.length : Int)) = some (out ++ goR kP p.length c o now s) := by
  intro s
  induction s with
  | nil =>
    intro p c m out now o h1 h2 h3 h4
    obtain ⟨m, rfl⟩ : ∃ k, m = k + 1 := ⟨m - 1, by omega⟩
    have hl : l.length = p.length + c.length := by rw [h1]; simp
    rw [rows_Rows_l0, if_neg (by omega)]
    have hcl : ∀ x : List api_Row, x.length ≤ 20001 → slices_Clone_api_Row F x = some x := by
      intro x hx
      unfold slices_Clone_api_Row
      rw [if_pos (by simp; omega)]; rfl
    by_cases hc : c = []
    · subst hc
      rw [if_neg (by simp at hl; omega)]
      simp only [Option.bind_some]
      rw [hcl out (by omega)]
      simp [goR]
    · have hp : 0 < c.length := List.length_pos_iff.2 hc
      rw [if_pos (by omega), rows1_eq F l p c [] o now _ out h1 hc hs hn hF (by omega) (by omega)]
      simp only [Option.bind_some]
      rw [hcl _ (by simp; omega)]
      simp only [Option.bind_some, goR, if_neg hc, hl]
      simp
  | cons t s ih =>
    intro p c m out now o h1 h2 h3 h4
    obtain ⟨m, rfl⟩ : ∃ k, m = k + 1 := ⟨m - 1, by omega⟩
    simp only [List.length_cons] at h2
    have hl : l.length = p.length + c.length + s.length + 1 := by rw [h1]; simp; omega
    rw [rows_Rows_l0]
    have e1 := mid_lt2 p c s t
    have e2 := get_mid2 p c s t
    rw [← h1] at e1 e2
    simp only [if_pos e1.2, if_pos e1, e2, Option.bind_some, brackets_eq F t now (by omega)]
    have hb := brk_range (k := t.Kind) h3
    have h1' : l = p ++ (c ++ [t]) ++ s := by rw [h1]; simp
    have ew : w64 ((p.length : Int) + (c.length : Int) + 1) = (p.length : Int) + ((c ++ [t]).length : Int) := by rw [w64_eq (by omega) (by omega)]; simp; omega
    rw [ew, rows1_eq F l p (c ++ [t]) s o (brk t.Kind now) _ out h1' (by simp) hs hn hF (by omega) rfl]
    simp only [Option.bind_some]
    have cont : rows_Rows_l0 F b l m (out ++ [⟨kP (c ++ [t]) o, p.length, (p.length : Int) + ((c ++ [t]).length : Int), colP (c ++ [t])⟩]) ((p.length : Int) + ((c ++ [t]).length : Int)) (brk t.Kind now) (brk t.Kind now) ((p.length : Int) + ((c ++ [t]).length : Int))
        = some (out ++ ⟨kP (c ++ [t]) o, p.length, (p.length : Int) + ((c ++ [t]).length : Int), colP (c ++ [t])⟩ :: goR kP ((p.length : Int) + ((c ++ [t]).length : Int)) [] (brk t.Kind now) (brk t.Kind now) s) := by
      have := ih (p ++ (c ++ [t])) [] m (out ++ [⟨kP (c ++ [t]) o, p.length, (p.length : Int) + ((c ++ [t]).length : Int), colP (c ++ [t])⟩]) (brk t.Kind now) (brk t.Kind now) (by rw [h1']; simp) (by omega) (by simp; omega) (by simp; omega)
      have ep : ((p ++ (c ++ [t])).length : Int) = (p.length : Int) + ((c ++ [t]).length : Int) := by simp
      rw [ep] at this
      simp only [List.length_nil, Int.add_zero, show ((0 : Nat) : Int) = 0 from rfl] at this
      rw [this]; simp
    by_cases hk1 : t.Kind = 1
    · rw [if_pos hk1]
      simp only [Option.bind_some]
      rw [cont, goR, if_pos (by simp [endK, hk1])]
    · rw [if_neg hk1]
      by_cases hk2 : t.Kind = 19
      · rw [if_pos hk2]
        simp only [Option.bind_some]
        rw [cont, goR, if_pos (by simp [endK, hk2])]
      · rw [if_neg hk2]
        simp only [Option.bind_some]
        rw [goR, if_neg (by simp [endK, hk1, hk2])]
        exact ih p (c ++ [t]) m out (brk t.Kind now) o h1' (by omega) (by simp; omega) h4
theorem rows_eq (F : Nat) (b : List UInt8) (l : List api_Token) (hs : Small l) (hn : l.length ≤ 20000) (hF : l.length + 10 < F) : rows_Rows F b l = some (goR kP 0 [] 0 0 l) := by
  unfold rows_Rows
  have := rows_l0 F b l hs hn hF l [] [] F [] 0 0 rfl (by omega) (by simp) (by simp)
  simp only [List.length_nil, Int.add_zero, show ((0 : Nat) : Int) = 0 from rfl] at this
  rw [this]; simp
end Go.Proofs.Ytcnbcimnfeekjaa.M
