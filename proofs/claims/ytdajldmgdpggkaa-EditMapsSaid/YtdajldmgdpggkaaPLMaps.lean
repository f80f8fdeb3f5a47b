/- EditMaps, plainly. -/
import Derived.Test.YtdajldmgdpggkaaP4D
import Derived.Test.YtdajldmgdpggkaaMLMaps0
namespace Go.Proofs.Ytdajldmgdpggkaa.M
open Go Am Sy
set_option linter.unusedVariables false
set_option linter.unusedSimpArgs false
/-- Does no edit touch a byte? -/
def clearB (a : Int) (s : List api_Edit) : Bool := s.all fun e => !(decide (e.From ≤ a ∧ a < e.To))
theorem maps_l1 (F : Nat) (b : List UInt8) (l es : List api_Edit) (out : List UInt8) (a x : Int) : ∀ (s p : List api_Edit) (m : Nat) (f : Bool), es = p ++ s → s.length < m → es.length ≤ 1000 →
    correctorlaw4_EditMaps_l1 F b l m es out a x f (p.length : Int) = some (es, out, a, x, f && clearB a s) := by
  intro s
  induction s with
  | nil =>
    intro p m f h1 h2 h3
    obtain ⟨m, rfl⟩ : ∃ k, m = k + 1 := ⟨m - 1, by omega⟩
    subst h1
    rw [correctorlaw4_EditMaps_l1, if_neg (by simp)]
    simp [clearB]
  | cons e s ih =>
    intro p m f h1 h2 h3
    obtain ⟨m, rfl⟩ : ∃ k, m = k + 1 := ⟨m - 1, by simp at h2; omega⟩
    subst h1
    simp only [List.length_cons, List.length_append] at h2 h3
    rw [correctorlaw4_EditMaps_l1, if_pos (mid_lt p s e).2]
    have key : ((if f = true then
          if 0 ≤ (p.length : Int) ∧ (p.length : Int) < ((p ++ e :: s).length : Int) then
            ((p ++ e :: s)[(p.length : Int).toNat]?).bind fun x23061 =>
            if x23061.From ≤ a then
              if 0 ≤ (p.length : Int) ∧ (p.length : Int) < ((p ++ e :: s).length : Int) then
                ((p ++ e :: s)[(p.length : Int).toNat]?).bind fun x23069 =>
                if a < x23069.To then
                  some (p ++ e :: s, out, false)
                else
                  some (p ++ e :: s, out, true)
              else none
            else
              some (p ++ e :: s, out, true)
          else none
        else
          some (p ++ e :: s, out, false)) : Option ((List api_Edit) × (List UInt8) × Bool)) = some (p ++ e :: s, out, f && !(decide (e.From ≤ a ∧ a < e.To))) := by
      cases f with
      | false => rfl
      | true =>
        rw [if_pos rfl]
        simp only [if_pos (mid_lt p s e), get_mid, Option.bind_some]
        by_cases h4 : e.From ≤ a
        · rw [if_pos h4]
          by_cases h5 : a < e.To
          · rw [if_pos h5, decide_eq_true ⟨h4, h5⟩]; rfl
          · rw [if_neg h5, decide_eq_false (by omega)]; rfl
        · rw [if_neg h4, decide_eq_false (by omega)]; rfl
    rw [key]
    simp only [Option.bind_some]
    rw [step_mid p e (by omega), ih (p ++ [e]) m _ (by simp) (by omega) (by simp; omega)]
    simp only [clearB, List.all_cons, Bool.and_assoc]
theorem clearB_iff {a : Int} {s : List api_Edit} : clearB a s = true ↔ ∀ e ∈ s, ¬ (e.From ≤ a ∧ a < e.To) := by
  unfold clearB
  rw [List.all_eq_true]
  constructor
  · intro h e he q
    have := h e he
    rw [decide_eq_true q] at this; cases this
  · intro h e he
    rw [decide_eq_false (h e he)]; rfl
theorem maps_l0 (F : Nat) (b : List UInt8) (l es : List api_Edit) (hb : b.length ≤ 60) (hl : es.length ≤ 30) (hf : Fine b.length 0 es) (hp : ∀ e ∈ es, e.Put.b.length ≤ 20) (hF : 2000 < F) : ∀ (d i m : Nat), i + d = b.length + 1 → d < m →
    correctorlaw4_EditMaps_l0 F b l m es (doneL b es) (i : Int) = some (.inl ()) := by
  intro d
  induction d with
  | zero =>
    intro i m h1 h2
    obtain ⟨m, rfl⟩ : ∃ k, m = k + 1 := ⟨m - 1, by omega⟩
    rw [correctorlaw4_EditMaps_l0, if_neg (by omega)]
  | succ d ih =>
    intro i m h1 h2
    obtain ⟨m, rfl⟩ : ∃ k, m = k + 1 := ⟨m - 1, by omega⟩
    have ht := fine_tame (n := b.length) (by omega) es 0 (Int.le_refl _) hf
    rw [correctorlaw4_EditMaps_l0, if_pos (by omega), map_eq F es i (by omega) (by omega) (by omega) ht (by omega)]
    simp only [Option.bind_some]
    rw [rmap_eq F es i (by omega) (by omega) (by omega) ht (by omega)]
    simp only [Option.bind_some, if_true]
    obtain ⟨r, q1, q2, q3⟩ := mapV_in (b := b) (i : Int) es 0 0 (Int.le_refl _) (by omega) (by omega) hf
    have hd : restL b 0 es = doneL b es := rfl
    rw [hd] at q2 q3
    have q1 : mapV i 0 es = (r : Int) := by rw [q1]; omega
    rw [q1, if_neg (by omega), if_neg (by omega)]
    have key : ((if (i : Int) < (b.length : Int) then some (es, doneL b es, true) else some (es, doneL b es, false)) : Option ((List api_Edit) × (List UInt8) × Bool)) = some (es, doneL b es, decide ((i : Int) < (b.length : Int))) := by
      by_cases h : (i : Int) < (b.length : Int)
      · rw [if_pos h, decide_eq_true h]
      · rw [if_neg h, decide_eq_false h]
    rw [key]
    simp only [Option.bind_some]
    have h1' := maps_l1 F b l es (doneL b es) (i : Int) (r : Int) es [] F (decide ((i : Int) < (b.length : Int))) rfl (by omega) (by omega)
    rw [show (([] : List api_Edit).length : Int) = 0 from rfl] at h1'
    rw [h1']
    simp only [Option.bind_some]
    have e1 : w64 ((i : Int) + 1) = ((i + 1 : Nat) : Int) := by rw [w64_eq (by omega) (by omega)]; omega
    by_cases h : (decide ((i : Int) < (b.length : Int)) && clearB (i : Int) es) = true
    · rw [if_pos h]
      rw [Bool.and_eq_true, decide_eq_true_eq] at h
      have hg := q3 (clearB_iff.1 h.2) h.1
      have hib : i < b.length := by omega
      rw [Int.toNat_natCast, List.getElem?_eq_getElem hib] at hg
      have hrl : r < (doneL b es).length := (List.getElem?_eq_some_iff.1 hg).1
      rw [if_neg (by omega), if_pos (by omega), get_nat, hg]
      simp only [Option.bind_some]
      rw [if_pos (by omega), get_nat, List.getElem?_eq_getElem hib]
      simp only [Option.bind_some, if_true]
      rw [e1]
      exact ih (i + 1) m (by omega) (by omega)
    · rw [if_neg h]
      simp only [Option.bind_some]
      rw [e1]
      exact ih (i + 1) m (by omega) (by omega)
theorem maps_holds (F : Nat) (b : List UInt8) (l : List api_Edit) (hl : l.length ≤ 9223372036854775807) (hF : l.length + 3000 ≤ F) : correctorlaw4_EditMaps F b l = some true := by
  unfold correctorlaw4_EditMaps
  rw [known_eq F (by omega)]
  simp only [Option.bind_some, if_true]
  by_cases h : (60 : Int) < b.length
  · rw [if_pos h]
  · rw [if_neg h]
    obtain ⟨w, hw, hw2⟩ := few_eq F l hl (by omega)
    rw [hw]
    simp only [Option.bind_some]
    cases w with
    | false => rfl
    | true =>
      have h3 := hw2 rfl
      obtain ⟨es, g1, g2, g3, g4, g5, g6⟩ := good_ref F b.length l (by omega) (by omega) h3 (by omega)
      rw [if_pos rfl, g1]
      simp only [Option.bind_some]
      rw [g2]
      simp only [Option.bind_some]
      rw [apply_done F b es (by omega) g3 g4 g5 (by omega)]
      simp only [Option.bind_some, if_true]
      have hl0 := maps_l0 F b l es (by omega) g3 g4 g5 (by omega) (b.length + 1) 0 F (by omega) (by omega)
      rw [show ((0 : Nat) : Int) = 0 from rfl] at hl0
      rw [hl0]
      rfl
end Go.Proofs.Ytdajldmgdpggkaa.M
