/- Printed by a program of this session: Go functions as Lean functions over plain data, and that the calls come to them. -/
import Derived.Test.YtdajldmgdpggkaaSyJ
import Derived.Test.YtdajldmgdpggkaaChecked
import Derived.KernelRfl
import Derived.Test.YtdajldmgdpggkaaMA0
namespace Go.Proofs.Ytdajldmgdpggkaa.M
open Go Am Sy
open Sy.Cell (rc)
set_option linter.unusedVariables false
set_option linter.unusedSimpArgs false
set_option maxRecDepth 20000

structure api_Span where
  From : Int
  To : Int
  deriving DecidableEq, Inhabited
instance : Cell api_Span where
  size := 2
  rc Z cs x := cs = [.int .i64 x.From, .int .i64 x.To]
  len h := by rw [h]; rfl
  mono _ h := h
  one h := by rw [h]; rfl
  pos := by decide
theorem rc_api_Span {Z : Zn} {cs : List Value} {x : api_Span} (h : rc Z cs x) : cs = [.int .i64 x.From, .int .i64 x.To] := h

theorem eqT_api_Span_59 {x y : api_Span} (h : x = y) : aBin Go.Proofs.Try.prog .eql 59 (.agg #[.int .i64 x.From, .int .i64 x.To]) (.agg #[.int .i64 y.From, .int .i64 y.To]) = some (.bool true) := by
  subst h
  refine eq_agg Go.Proofs.Try.underlying59 (by kernel_rfl) (by kernel_rfl) (w := true) ?_
  refine fld_T (by decide) rfl rfl ((eqf_int ⟨_, Go.Proofs.Try.underlying3⟩).trans (by simp )) ?_
  refine fld_T (by decide) rfl rfl ((eqf_int ⟨_, Go.Proofs.Try.underlying3⟩).trans (by simp )) ?_
  rfl
theorem eqF_api_Span_59 {x y : api_Span} (h : ¬ x = y) : aBin Go.Proofs.Try.prog .eql 59 (.agg #[.int .i64 x.From, .int .i64 x.To]) (.agg #[.int .i64 y.From, .int .i64 y.To]) = some (.bool false) := by
  refine eq_agg Go.Proofs.Try.underlying59 (by kernel_rfl) (by kernel_rfl) (w := false) ?_
  by_cases h0 : x.From = y.From
  case neg => exact fld_F (by decide) rfl rfl ((eqf_int ⟨_, Go.Proofs.Try.underlying3⟩).trans (by simp [h0]))
  refine fld_T (by decide) rfl rfl ((eqf_int ⟨_, Go.Proofs.Try.underlying3⟩).trans (by simp [h0])) ?_
  by_cases h1 : x.To = y.To
  case neg => exact fld_F (by decide) rfl rfl ((eqf_int ⟨_, Go.Proofs.Try.underlying3⟩).trans (by simp [h1]))
  refine fld_T (by decide) rfl rfl ((eqf_int ⟨_, Go.Proofs.Try.underlying3⟩).trans (by simp [h1])) ?_
  exact absurd (by cases x; cases y; simp_all) h
theorem neT_api_Span_59 {x y : api_Span} (h : ¬ x = y) : aBin Go.Proofs.Try.prog .neq 59 (.agg #[.int .i64 x.From, .int .i64 x.To]) (.agg #[.int .i64 y.From, .int .i64 y.To]) = some (.bool true) := by
  refine ne_agg Go.Proofs.Try.underlying59 (by kernel_rfl) (by kernel_rfl) (w := false) ?_
  by_cases h0 : x.From = y.From
  case neg => exact fld_F (by decide) rfl rfl ((eqf_int ⟨_, Go.Proofs.Try.underlying3⟩).trans (by simp [h0]))
  refine fld_T (by decide) rfl rfl ((eqf_int ⟨_, Go.Proofs.Try.underlying3⟩).trans (by simp [h0])) ?_
  by_cases h1 : x.To = y.To
  case neg => exact fld_F (by decide) rfl rfl ((eqf_int ⟨_, Go.Proofs.Try.underlying3⟩).trans (by simp [h1]))
  refine fld_T (by decide) rfl rfl ((eqf_int ⟨_, Go.Proofs.Try.underlying3⟩).trans (by simp [h1])) ?_
  exact absurd (by cases x; cases y; simp_all) h
theorem neF_api_Span_59 {x y : api_Span} (h : x = y) : aBin Go.Proofs.Try.prog .neq 59 (.agg #[.int .i64 x.From, .int .i64 x.To]) (.agg #[.int .i64 y.From, .int .i64 y.To]) = some (.bool false) := by
  subst h
  refine ne_agg Go.Proofs.Try.underlying59 (by kernel_rfl) (by kernel_rfl) (w := true) ?_
  refine fld_T (by decide) rfl rfl ((eqf_int ⟨_, Go.Proofs.Try.underlying3⟩).trans (by simp )) ?_
  refine fld_T (by decide) rfl rfl ((eqf_int ⟨_, Go.Proofs.Try.underlying3⟩).trans (by simp )) ?_
  rfl

def r37_0 : List COp := [u 2 (.box 59 (t 0)), u 3 (.box 59 (t 1)), u 4 (.assign (.const (.bool false)))]
def r37_1 : List COp := [u 5 (.fieldAddr 59 (t 2) 0), u 6 (.load 3 (t 5)), u 7 (.fieldAddr 59 (t 3) 1), u 8 (.load 3 (t 7)), u 9 (.binOp .lss 3 (t 6) (t 8) 3), u 10 (.move (t 9)), gT 10 (some 11) (.fieldAddr 59 (t 3) 0), gT 10 (some 12) (.load 3 (t 11)), gT 10 (some 13) (.fieldAddr 59 (t 2) 1), gT 10 (some 14) (.load 3 (t 13)), gT 10 (some 15) (.binOp .lss 3 (t 12) (t 14) 3), u 16 (.pick (t 10) (t 15) (.const (.bool false))), u 4 (.assign (t 16))]
def span_Meet (F : Nat) (a0 : api_Span) (a1 : api_Span) : Option Bool :=
  if a0.From < a1.To then
    if a1.From < a0.To then
      some true
    else
      some false
  else
    some false
theorem span_Meet_ok (F : Nat) {h : AH} {Z : Zn} {a0 : api_Span} {a1 : api_Span} (hI : Inv Z h) {r : Bool} (hm : span_Meet F a0 a1 = some r) :
    ∃ v h', callI Go.Proofs.Try.prog 37 [.agg #[.int .i64 a0.From, .int .i64 a0.To], .agg #[.int .i64 a1.From, .int .i64 a1.To]] h = some (v, h') ∧ St h [] Z (0, 0) Z h' [] ∧ v = .bool r := by
  refine fn_plain (Q := fun v => v = .bool r) Go.Proofs.Try.func37 rfl rfl hI ?_
  intro hs hS
  unfold span_Meet at hm
  refine sr r37_0 ?_
  refine r_blk rfl trivial (o_box (cs := [.int .i64 a0.From, .int .i64 a0.To]) rfl rfl) hS ?_
  intro b1895 h1896 hS1897
  refine r_blk rfl trivial (o_box (cs := [.int .i64 a1.From, .int .i64 a1.To]) rfl rfl) hS1897 ?_
  intro b1898 h1899 hS1900
  refine xe 1 [(3, .pointer (some ⟨b1898, 0, none⟩)), (2, .pointer (some ⟨b1895, 0, none⟩))] ?_
  refine sr r37_1 ?_
  refine xq 1 [(5, .pointer (some ⟨b1895, 0, none⟩)), (3, .pointer (some ⟨b1898, 0, none⟩)), (2, .pointer (some ⟨b1895, 0, none⟩))] ?_
  refine r_step rfl trivial (o_ldb (v := .int .i64 a0.From) hS1900 (i := 1) rfl rfl (by kernel_rfl)) ?_
  refine xq 1 [(7, .pointer (some ⟨b1898, 1, none⟩)), (6, .int .i64 a0.From), (3, .pointer (some ⟨b1898, 0, none⟩)), (2, .pointer (some ⟨b1895, 0, none⟩))] ?_
  refine r_step rfl trivial (o_ldb (v := .int .i64 a1.To) hS1900 (i := 0) rfl rfl (by kernel_rfl)) ?_
  rcases ifs hm with ⟨hp1901, hm⟩ | ⟨hp1901, hm⟩
  refine r_step rfl trivial (o_cmp rfl rfl (c_lss_T hp1901)) ?_
  refine xq 2 [(11, .pointer (some ⟨b1898, 0, none⟩)), (10, .bool true), (2, .pointer (some ⟨b1895, 0, none⟩))] ?_
  refine r_step rfl rfl (o_ldb (v := .int .i64 a1.From) hS1900 (i := 0) rfl rfl (by kernel_rfl)) ?_
  refine xq 1 [(13, .pointer (some ⟨b1895, 1, none⟩)), (12, .int .i64 a1.From), (10, .bool true)] ?_
  refine r_step rfl rfl (o_ldb (v := .int .i64 a0.To) hS1900 (i := 1) rfl rfl (by kernel_rfl)) ?_
  rcases ifs hm with ⟨hp1902, hm⟩ | ⟨hp1902, hm⟩
  refine r_step rfl rfl (o_cmp rfl rfl (c_lss_T hp1902)) ?_
  refine xe 2 [(4, .bool true)] ?_
  refine rt ?_
  refine ⟨rfl, ?_⟩
  obtain rfl := Option.some.inj hm
  refine ⟨_, _, _, ResL.tmp rfl (ResL.nil), hS1900, ?_⟩
  exact rfl
  refine r_step rfl rfl (o_cmp rfl rfl (c_lss_F hp1902)) ?_
  refine xe 2 [(4, .bool false)] ?_
  refine rt ?_
  refine ⟨rfl, ?_⟩
  obtain rfl := Option.some.inj hm
  refine ⟨_, _, _, ResL.tmp rfl (ResL.nil), hS1900, ?_⟩
  exact rfl
  refine r_step rfl trivial (o_cmp rfl rfl (c_lss_F hp1901)) ?_
  refine xe 8 [(4, .bool false)] ?_
  refine rt ?_
  refine ⟨rfl, ?_⟩
  obtain rfl := Option.some.inj hm
  refine ⟨_, _, _, ResL.tmp rfl (ResL.nil), hS1900, ?_⟩
  exact rfl

def r29_0 : List COp := [u 2 (.box 29 (t 0)), u 3 (.box 29 (t 1)), u 4 (.assign (.const (.bool false)))]
def r29_1 : List COpF := [uF 7 (.fieldAddr 29 (t 2) 0) .pure [], uF 8 (.load 3 (t 7)) .look [], uF 9 (.fieldAddr 29 (t 2) 1) .pure [], uF 10 (.load 3 (t 9)) .look [], uF 11 (.build 59 #[(0, (t 8)), (1, (t 10))]) .pure [], uF 12 (.fieldAddr 29 (t 3) 0) .pure [], uF 13 (.load 3 (t 12)) .look [], uF 14 (.fieldAddr 29 (t 3) 1) .pure [], uF 15 (.load 3 (t 14)) .look [], uF 16 (.build 59 #[(0, (t 13)), (1, (t 15))]) .pure [], uF 5 (.alloc 59) .fresh [], uF 6 (.alloc 59) .fresh [], oF (.store 59 (t 5) (t 11)) .make [1, 3], oF (.store 59 (t 6) (t 16)) .make [1, 3, 6, 8]]
def r29_2 : List COp := [u 17 (.load 59 (t 5)), u 18 (.load 59 (t 6)), u 19 (.binOp .eql 59 (t 17) (t 18) 59), u 20 (.move (t 19)), gN 20 (some 21) (.load 59 (t 5)), gN 20 (some 22) (.load 59 (t 6)), gN 20 (some 23) (cf 37 #[(t 21), (t 22)] #[59, 59]), u 24 (.pick (t 20) (.const (.bool true)) (t 23)), u 4 (.assign (t 24))]
def edit_upon (F : Nat) (a0 : api_Edit) (a1 : api_Edit) : Option Bool :=
  if (⟨a0.From, a0.To⟩ : api_Span) = (⟨a1.From, a1.To⟩ : api_Span) then
    some true
  else
    (span_Meet F (⟨a0.From, a0.To⟩ : api_Span) (⟨a1.From, a1.To⟩ : api_Span)).bind fun r1940 =>
    some r1940
theorem edit_upon_ok (F : Nat) {h : AH} {Z : Zn} {a0 : api_Edit} {a1 : api_Edit} (hI : Inv Z h) {r : Bool} (hm : edit_upon F a0 a1 = some r) :
    ∃ v h', callI Go.Proofs.Try.prog 29 [.agg #[.int .i64 a0.From, .int .i64 a0.To, .string ⟨⟨a0.Put.b⟩⟩], .agg #[.int .i64 a1.From, .int .i64 a1.To, .string ⟨⟨a1.Put.b⟩⟩]] h = some (v, h') ∧ St h [] Z (0, 0) Z h' [] ∧ v = .bool r := by
  refine fn_plain (Q := fun v => v = .bool r) Go.Proofs.Try.func29 rfl rfl hI ?_
  intro hs hS
  unfold edit_upon at hm
  refine sr r29_0 ?_
  refine r_blk rfl trivial (o_box (cs := [.int .i64 a0.From, .int .i64 a0.To, .string ⟨⟨a0.Put.b⟩⟩]) rfl rfl) hS ?_
  intro b1910 h1911 hS1912
  refine r_blk rfl trivial (o_box (cs := [.int .i64 a1.From, .int .i64 a1.To, .string ⟨⟨a1.Put.b⟩⟩]) rfl rfl) hS1912 ?_
  intro b1913 h1914 hS1915
  refine xe 1 [(3, .pointer (some ⟨b1913, 0, none⟩)), (2, .pointer (some ⟨b1910, 0, none⟩))] ?_
  refine srF r29_1 hS1915 ?_
  intro bs1916 h1917 hlv1919 hS1918
  refine yq 1 [(7, .pointer (some ⟨b1910, 0, none⟩)), (3, .pointer (some ⟨b1913, 0, none⟩)), (2, .pointer (some ⟨b1910, 0, none⟩))] ?_
  have lt1920 : b1910 < bs1916 := hlv1919.1 _ (List.mem_of_getElem? (i := 1) rfl) _ (by simp [Itm.ids])
  refine e_lookB rfl trivial rfl (by show b1910 < _; omega) (same1 (v := .int .i64 a0.From) trivial) (o_ldb (v := .int .i64 a0.From) hS1918 (i := 1) rfl rfl (by kernel_rfl)) trivial ?_
  refine yq 1 [(9, .pointer (some ⟨b1910, 1, none⟩)), (8, .int .i64 a0.From), (3, .pointer (some ⟨b1913, 0, none⟩))] ?_
  have lt1921 : b1910 < bs1916 := hlv1919.1 _ (List.mem_of_getElem? (i := 1) rfl) _ (by simp [Itm.ids])
  refine e_lookB rfl trivial rfl (by show b1910 < _; omega) (same1 (v := .int .i64 a0.To) trivial) (o_ldb (v := .int .i64 a0.To) hS1918 (i := 1) rfl rfl (by kernel_rfl)) trivial ?_
  refine yq 2 [(12, .pointer (some ⟨b1913, 0, none⟩)), (11, .agg #[.int .i64 a0.From, .int .i64 a0.To]), (3, .pointer (some ⟨b1913, 0, none⟩))] ?_
  have lt1922 : b1913 < bs1916 := hlv1919.1 _ (List.mem_of_getElem? (i := 0) rfl) _ (by simp [Itm.ids])
  refine e_lookB rfl trivial rfl (by show b1913 < _; omega) (same1 (v := .int .i64 a1.From) trivial) (o_ldb (v := .int .i64 a1.From) hS1918 (i := 0) rfl rfl (by kernel_rfl)) trivial ?_
  refine yq 1 [(14, .pointer (some ⟨b1913, 1, none⟩)), (13, .int .i64 a1.From), (11, .agg #[.int .i64 a0.From, .int .i64 a0.To])] ?_
  have lt1923 : b1913 < bs1916 := hlv1919.1 _ (List.mem_of_getElem? (i := 0) rfl) _ (by simp [Itm.ids])
  refine e_lookB rfl trivial rfl (by show b1913 < _; omega) (same1 (v := .int .i64 a1.To) trivial) (o_ldb (v := .int .i64 a1.To) hS1918 (i := 0) rfl rfl (by kernel_rfl)) trivial ?_
  refine yq 1 [(16, .agg #[.int .i64 a1.From, .int .i64 a1.To]), (11, .agg #[.int .i64 a0.From, .int .i64 a0.To])] ?_
  refine e_blk rfl trivial (o_alloc (cs := [.int .i64 0, .int .i64 0]) (by kernel_rfl)) hS1918 (by omega) (Nat.add_lt_add_left (by decide) _) ?_
  intro b1924 h1925 eb1927 hS1926
  refine e_blk rfl trivial (o_alloc (cs := [.int .i64 0, .int .i64 0]) (by kernel_rfl)) hS1926 (by omega) (Nat.add_lt_add_left (by decide) _) ?_
  intro b1928 h1929 eb1931 hS1930
  have hF1934 : St _ _ _ _ _ _ ([.blk b1924 [.int .i64 0, .int .i64 0]] ++ [.blk b1928 [.int .i64 0, .int .i64 0], .blk b1913 [.int .i64 a1.From, .int .i64 a1.To, .string ⟨⟨a1.Put.b⟩⟩], .blk b1910 [.int .i64 a0.From, .int .i64 a0.To, .string ⟨⟨a0.Put.b⟩⟩]]) := (hS1930.front 1 rfl)
  refine e_mk1 rfl trivial hF1934 (o_stb (vs := [.int .i64 a0.From, .int .i64 a0.To]) (cells' := [.int .i64 a0.From, .int .i64 a0.To]) (L' := [.blk b1924 [.int .i64 a0.From, .int .i64 a0.To]]) hF1934.sub (i := 0) rfl rfl rfl rfl (by kernel_rfl) rfl rfl rfl rfl) (Zle.refl _) (.keep (hF1934.neB 1 rfl blk_mem) (.keep (hF1934.neB 1 rfl blk_mem) (.keep (hF1934.neB 2 rfl blk_mem) (.keep (hF1934.neB 2 rfl blk_mem) .nil)))) ?_
  intro h1932 hS1933
  have hF1937 : St _ _ _ _ _ _ ([.blk b1928 [.int .i64 0, .int .i64 0]] ++ [.blk b1924 [.int .i64 a0.From, .int .i64 a0.To], .blk b1913 [.int .i64 a1.From, .int .i64 a1.To, .string ⟨⟨a1.Put.b⟩⟩], .blk b1910 [.int .i64 a0.From, .int .i64 a0.To, .string ⟨⟨a0.Put.b⟩⟩]]) := (hS1933.front 1 rfl)
  refine e_mk1 rfl trivial hF1937 (o_stb (vs := [.int .i64 a1.From, .int .i64 a1.To]) (cells' := [.int .i64 a1.From, .int .i64 a1.To]) (L' := [.blk b1928 [.int .i64 a1.From, .int .i64 a1.To]]) hF1937.sub (i := 0) rfl rfl rfl rfl (by kernel_rfl) rfl rfl rfl rfl) (Zle.refl _) (.keep (hF1937.neB 1 rfl blk_mem) (.keep (hF1937.neB 1 rfl blk_mem) (.keep (hF1937.neB 2 rfl blk_mem) (.keep (hF1937.neB 2 rfl blk_mem) .nil)))) ?_
  intro h1935 hS1936
  refine yf [(6, .pointer (some ⟨b1928, 0, none⟩)), (5, .pointer (some ⟨b1924, 0, none⟩))] ?_
  have hS1938 := hS1936.unres
  refine sr r29_2 ?_
  refine r_step rfl trivial (o_ldb (v := .agg #[.int .i64 a0.From, .int .i64 a0.To]) hS1938 (i := 1) rfl rfl (by kernel_rfl)) ?_
  refine r_step rfl trivial (o_ldb (v := .agg #[.int .i64 a1.From, .int .i64 a1.To]) hS1938 (i := 0) rfl rfl (by kernel_rfl)) ?_
  rcases ifs hm with ⟨hp1939, hm⟩ | ⟨hp1939, hm⟩
  refine r_step rfl trivial (o_cmp rfl rfl (eqT_api_Span_59 (x := (⟨a0.From, a0.To⟩ : api_Span)) (y := (⟨a1.From, a1.To⟩ : api_Span)) hp1939)) ?_
  refine xe 6 [(4, .bool true)] ?_
  refine rt ?_
  refine ⟨rfl, ?_⟩
  obtain rfl := Option.some.inj hm
  refine ⟨_, _, _, ResL.tmp rfl (ResL.nil), hS1938, ?_⟩
  exact rfl
  refine r_step rfl trivial (o_cmp rfl rfl (eqF_api_Span_59 (x := (⟨a0.From, a0.To⟩ : api_Span)) (y := (⟨a1.From, a1.To⟩ : api_Span)) hp1939)) ?_
  refine xq 1 [(20, .bool false), (6, .pointer (some ⟨b1928, 0, none⟩)), (5, .pointer (some ⟨b1924, 0, none⟩))] ?_
  refine r_step rfl rfl (o_ldb (v := .agg #[.int .i64 a0.From, .int .i64 a0.To]) hS1938 (i := 1) rfl rfl (by kernel_rfl)) ?_
  refine r_step rfl rfl (o_ldb (v := .agg #[.int .i64 a1.From, .int .i64 a1.To]) hS1938 (i := 0) rfl rfl (by kernel_rfl)) ?_
  obtain ⟨r1940, hx1941, hm⟩ := obind hm
  obtain ⟨v1942, h1943, hcl1944, hSc1945, rfl⟩ := span_Meet_ok F hS1938.inv  hx1941
  have hS1946 := St.call (A := []) (B := [.blk b1928 [.int .i64 a1.From, .int .i64 a1.To], .blk b1924 [.int .i64 a0.From, .int .i64 a0.To], .blk b1913 [.int .i64 a1.From, .int .i64 a1.To, .string ⟨⟨a1.Put.b⟩⟩], .blk b1910 [.int .i64 a0.From, .int .i64 a0.To, .string ⟨⟨a0.Put.b⟩⟩]]) hS1938 hSc1945
  replace hS1946 : St _ _ _ _ _ _ [.blk b1928 [.int .i64 a1.From, .int .i64 a1.To], .blk b1924 [.int .i64 a0.From, .int .i64 a0.To], .blk b1913 [.int .i64 a1.From, .int .i64 a1.To, .string ⟨⟨a1.Put.b⟩⟩], .blk b1910 [.int .i64 a0.From, .int .i64 a0.To, .string ⟨⟨a0.Put.b⟩⟩]] := hS1946
  refine r_step rfl rfl (o_call hcl1944 rfl rfl rfl) ?_
  refine xe 2 [(4, .bool r1940)] ?_
  refine rt ?_
  refine ⟨rfl, ?_⟩
  obtain rfl := Option.some.inj hm
  refine ⟨_, _, _, ResL.tmp rfl (ResL.nil), hS1946, ?_⟩
  exact rfl

def r28_0 : List COp := [u 2 (.box 29 (t 0)), u 3 (.assign (.const (.bool false)))]
def r28_1 : List COp := [u 4 (.load 29 (t 1)), u 5 (.load 29 (t 2)), u 6 (cf 29 #[(t 4), (t 5)] #[29, 29]), u 3 (.assign (t 6))]
def edit_Choose_1 (F : Nat) (a0 : api_Edit) (a1 : api_Edit) : Option Bool :=
  (edit_upon F a1 a0).bind fun r1957 =>
  some r1957
theorem edit_Choose_1_ok (F : Nat) {h : AH} {Z : Zn} {a0 : api_Edit} {a1 : api_Edit} {b1853 : Nat} (hP : Pre Z h [.blk b1853 [.int .i64 a1.From, .int .i64 a1.To, .string ⟨⟨a1.Put.b⟩⟩]]) {r : Bool} (hm : edit_Choose_1 F a0 a1 = some r) :
    ∃ v h' Z' A', callI Go.Proofs.Try.prog 28 [.agg #[.int .i64 a0.From, .int .i64 a0.To, .string ⟨⟨a0.Put.b⟩⟩], .pointer (some ⟨b1853, 0, none⟩)] h = some (v, h') ∧ St h (idsL [.blk b1853 [.int .i64 a1.From, .int .i64 a1.To, .string ⟨⟨a1.Put.b⟩⟩]]) Z (0, 0) Z' h' A' ∧ .bool r = v ∧ A' = [.blk b1853 [.int .i64 a1.From, .int .i64 a1.To, .string ⟨⟨a1.Put.b⟩⟩]] := by
  refine fn_intro (A := [.blk b1853 [.int .i64 a1.From, .int .i64 a1.To, .string ⟨⟨a1.Put.b⟩⟩]]) (Q := fun v Z' A' => .bool r = v ∧ A' = [.blk b1853 [.int .i64 a1.From, .int .i64 a1.To, .string ⟨⟨a1.Put.b⟩⟩]]) Go.Proofs.Try.func28 rfl rfl (by kernel_rfl) hP ?_
  intro hs hS
  unfold edit_Choose_1 at hm
  refine sr r28_0 ?_
  refine r_blk rfl trivial (o_box (cs := [.int .i64 a0.From, .int .i64 a0.To, .string ⟨⟨a0.Put.b⟩⟩]) rfl rfl) hS ?_
  intro b1954 h1955 hS1956
  refine xe 1 [(2, .pointer (some ⟨b1954, 0, none⟩)), (1, .pointer (some ⟨b1853, 0, none⟩))] ?_
  refine sr r28_1 ?_
  refine r_step rfl trivial (o_ldb (v := .agg #[.int .i64 a1.From, .int .i64 a1.To, .string ⟨⟨a1.Put.b⟩⟩]) hS1956 (i := 1) rfl rfl (by kernel_rfl)) ?_
  refine r_step rfl trivial (o_ldb (v := .agg #[.int .i64 a0.From, .int .i64 a0.To, .string ⟨⟨a0.Put.b⟩⟩]) hS1956 (i := 0) rfl rfl (by kernel_rfl)) ?_
  obtain ⟨r1957, hx1958, hm⟩ := obind hm
  obtain ⟨v1959, h1960, hcl1961, hSc1962, rfl⟩ := edit_upon_ok F hS1956.inv  hx1958
  have hS1963 := St.call (A := []) (B := [.blk b1954 [.int .i64 a0.From, .int .i64 a0.To, .string ⟨⟨a0.Put.b⟩⟩], .blk b1853 [.int .i64 a1.From, .int .i64 a1.To, .string ⟨⟨a1.Put.b⟩⟩]]) hS1956 hSc1962
  replace hS1963 : St _ _ _ _ _ _ [.blk b1954 [.int .i64 a0.From, .int .i64 a0.To, .string ⟨⟨a0.Put.b⟩⟩], .blk b1853 [.int .i64 a1.From, .int .i64 a1.To, .string ⟨⟨a1.Put.b⟩⟩]] := hS1963
  refine r_step rfl trivial (o_call hcl1961 rfl rfl rfl) ?_
  refine xe 1 [(3, .bool r1957)] ?_
  refine rt ?_
  refine ⟨rfl, ?_⟩
  obtain rfl := Option.some.inj hm
  refine ⟨_, _, _, ResL.tmp rfl (ResL.nil), ((hS1963.front 1 rfl).takeN 1), ?_⟩
  exact ⟨rfl, rfl⟩

def r36_0 : List COp := [u 4 (.assign (ci 0))]
def r36_1 : List COp := [u 6 (.move (t 0)), u 7 (cb .len #[(t 6)] #[22]), u 8 (.move (ci 0))]
def r36_2 : List COp := [u 9 (.binOp .lss 3 (t 8) (t 7) 3)]
def r36_3 : List COp := [u 10 (.move (t 8)), u 5 (.assign (t 10))]
def r36_4 : List COp := [u 11 (.move (t 1)), u 12 (.move (t 0)), u 13 (.move (t 5)), u 14 (.indexAddr 22 (t 12) (t 13)), u 15 (.load 29 (t 14)), u 16 (.call { callee := (.value (t 11)), args := #[(t 15)], argTypes := #[29] })]
def r36_5 : List COp := [u 17 (.move (t 5)), u 4 (.assign (t 17))]
def r36_6 : List COp := [u 18 (.binOp .add 3 (t 8) (ci 1) 3), u 8 (.move (t 18))]
def r36_7 : List COp := [u 4 (.assign (ci (-1)))]
def slices_IndexFunc_api_Edit_l0 (F : Nat) (a0 : List api_Edit) (a1_c0 : api_Edit) : Nat → Int → Option (Sum Unit Int)
  | 0, _ => none
  | n + 1, x2060 =>
    if x2060 < (a0.length : Int) then
      if 0 ≤ x2060 ∧ x2060 < (a0.length : Int) then
        (a0[x2060.toNat]?).bind fun x2067 =>
        (edit_Choose_1 F x2067 a1_c0).bind fun r2073 =>
        if r2073 = true then
          some (.inr x2060)
        else
          slices_IndexFunc_api_Edit_l0 F a0 a1_c0 n (w64 (x2060 + 1))
      else none
    else
      some (.inl ())
def slices_IndexFunc_api_Edit (F : Nat) (a0 : List api_Edit) (a1_c0 : api_Edit) : Option Int :=
  ((slices_IndexFunc_api_Edit_l0 F a0 a1_c0 F 0) : Option (Sum Unit Int)).bind fun o => match o with
    | .inl () => some (-1)
    | .inr y => some y
theorem slices_IndexFunc_api_Edit_ok (F : Nat) {h : AH} {Z : Zn} {a0 : List api_Edit} {a1_c0 : api_Edit} {v1838 : Value} {c1839 : List Value} {b1840 : Nat} (hP : Pre Z h [.gs v1838 c1839 (csz api_Edit), .blk b1840 [.int .i64 a1_c0.From, .int .i64 a1_c0.To, .string ⟨⟨a1_c0.Put.b⟩⟩]]) (q1837 : RCs (α := api_Edit) Z c1839 a0) {r : Int} (hm : slices_IndexFunc_api_Edit F a0 a1_c0 = some r) :
    ∃ v h' Z' A', callI Go.Proofs.Try.prog 36 [v1838, .func (.func 28) #[] #[.pointer (some ⟨b1840, 0, none⟩)]] h = some (v, h') ∧ St h (idsL [.gs v1838 c1839 (csz api_Edit), .blk b1840 [.int .i64 a1_c0.From, .int .i64 a1_c0.To, .string ⟨⟨a1_c0.Put.b⟩⟩]]) Z (0, 0) Z' h' A' ∧ .int .i64 r = v ∧ A' = [.gs v1838 c1839 (csz api_Edit), .blk b1840 [.int .i64 a1_c0.From, .int .i64 a1_c0.To, .string ⟨⟨a1_c0.Put.b⟩⟩]] := by
  refine fn_intro (A := [.gs v1838 c1839 (csz api_Edit), .blk b1840 [.int .i64 a1_c0.From, .int .i64 a1_c0.To, .string ⟨⟨a1_c0.Put.b⟩⟩]]) (Q := fun v Z' A' => .int .i64 r = v ∧ A' = [.gs v1838 c1839 (csz api_Edit), .blk b1840 [.int .i64 a1_c0.From, .int .i64 a1_c0.To, .string ⟨⟨a1_c0.Put.b⟩⟩]]) Go.Proofs.Try.func36 rfl rfl (by kernel_rfl) hP ?_
  intro hs hS
  unfold slices_IndexFunc_api_Edit at hm
  refine sr r36_0 ?_
  refine xe 1 [(0, v1838), (1, .func (.func 28) #[] #[.pointer (some ⟨b1840, 0, none⟩)])] ?_
  refine sq ?_
  refine sr r36_1 ?_
  refine xq 1 [(6, v1838), (0, v1838), (1, .func (.func 28) #[] #[.pointer (some ⟨b1840, 0, none⟩)])] ?_
  refine r_step rfl trivial (o_len rfl (hS.glen (i := 0) rfl q1837) ⟨_, Go.Proofs.Try.underlying22⟩) ?_
  refine xe 1 [(8, .int .i64 0), (7, .int .i64 (a0.length : Int)), (0, v1838), (1, .func (.func 28) #[] #[.pointer (some ⟨b1840, 0, none⟩)])] ?_
  obtain ⟨o2058, ho2057, hm⟩ := obind hm
  refine W_join [] (fun l h => ∃ Z2086 : Zn, .inl () = o2058 ∧ l = [] ∧ St hs (idsL [.gs v1838 c1839 (csz api_Edit), .blk b1840 [.int .i64 a1_c0.From, .int .i64 a1_c0.To, .string ⟨⟨a1_c0.Put.b⟩⟩]]) Z (0, 0) Z2086 h [.gs v1838 c1839 (csz api_Edit), .blk b1840 [.int .i64 a1_c0.From, .int .i64 a1_c0.To, .string ⟨⟨a1_c0.Put.b⟩⟩]]) ?_ ?_
  rintro l h2087 ⟨Z2086, rfl, rfl, hS2088⟩
  try dsimp only at hm
  refine sr r36_7 ?_
  refine xe 1 [(4, .int .i64 (-1))] ?_
  refine rt ?_
  refine ⟨rfl, ?_⟩
  obtain rfl := Option.some.inj hm
  refine ⟨_, _, _, ResL.tmp rfl (ResL.nil), hS2088, ?_⟩
  exact ⟨rfl, rfl⟩
  refine bk 0 ?_
  refine lp [0, 1, 7, 8] (fun n l h => ∃ Z2059 : Zn, ∃ x2060 : Int, slices_IndexFunc_api_Edit_l0 F a0 a1_c0 n x2060 = some o2058 ∧ l = [(0, v1838), (1, .func (.func 28) #[] #[.pointer (some ⟨b1840, 0, none⟩)]), (7, .int .i64 (a0.length : Int)), (8, .int .i64 x2060)] ∧ St hs (idsL [.gs v1838 c1839 (csz api_Edit), .blk b1840 [.int .i64 a1_c0.From, .int .i64 a1_c0.To, .string ⟨⟨a1_c0.Put.b⟩⟩]]) Z (0, 0) Z2059 h [.gs v1838 c1839 (csz api_Edit), .blk b1840 [.int .i64 a1_c0.From, .int .i64 a1_c0.To, .string ⟨⟨a1_c0.Put.b⟩⟩]]) F ⟨_, 0, ho2057, rfl, hS⟩ ?_
  rintro n2063 l h2061 ⟨Z2059, x2060, ho2057, rfl, hS2062⟩
  rcases n2063 with _ | n2063
  cases (show none = some o2058 from ho2057)
  rw [slices_IndexFunc_api_Edit_l0] at ho2057
  refine sr r36_2 ?_
  rcases ifs ho2057 with ⟨hp2065, ho2057⟩ | ⟨hp2065, ho2057⟩
  refine r_step rfl trivial (o_cmp rfl rfl (c_lss_T hp2065)) ?_
  refine xf [(9, .bool true), (0, v1838), (1, .func (.func 28) #[] #[.pointer (some ⟨b1840, 0, none⟩)]), (7, .int .i64 (a0.length : Int)), (8, .int .i64 x2060)] ?_
  refine sq ?_
  refine kT 9 rfl ?_
  refine sq ?_
  refine bk 1 ?_
  refine sr r36_3 ?_
  refine xe 2 [(5, .int .i64 x2060), (0, v1838), (1, .func (.func 28) #[] #[.pointer (some ⟨b1840, 0, none⟩)]), (7, .int .i64 (a0.length : Int)), (8, .int .i64 x2060)] ?_
  refine sr r36_4 ?_
  refine xq 3 [(13, .int .i64 x2060), (12, v1838), (11, .func (.func 28) #[] #[.pointer (some ⟨b1840, 0, none⟩)]), (5, .int .i64 x2060), (0, v1838), (1, .func (.func 28) #[] #[.pointer (some ⟨b1840, 0, none⟩)]), (7, .int .i64 (a0.length : Int)), (8, .int .i64 x2060)] ?_
  obtain ⟨hc2066, ho2057⟩ := chk ho2057
  refine r_step rfl trivial (o_index rfl rfl (by kernel_rfl : slTy _ _ = some (csz api_Edit)) (hS2062.gbased (j := 0) rfl (q1837.mono hS2062.zle) (by omega)) hc2066.1 hc2066.2) ?_
  obtain ⟨x2067, hx2068, ho2057⟩ := obind ho2057
  obtain ⟨cs2069, hc2070, he2071, ht2072⟩ := hS2062.gel (j := 0) rfl (q1837.mono hS2062.zle) (i := x2060) hx2068
  obtain rfl := rc_api_Edit hc2070
  refine r_step rfl trivial (o_lde (w := .agg #[.int .i64 x2067.From, .int .i64 x2067.To, .string ⟨⟨x2067.Put.b⟩⟩]) he2071 rfl (by kernel_rfl)) ?_
  obtain ⟨r2073, hx2074, ho2057⟩ := obind ho2057
  have hF2080 : St _ _ _ _ _ _ ([.blk b1840 [.int .i64 a1_c0.From, .int .i64 a1_c0.To, .string ⟨⟨a1_c0.Put.b⟩⟩]] ++ [.gs v1838 c1839 (csz api_Edit)]) := (hS2062.front 1 rfl)
  obtain ⟨v2075, h2076, Z2081, A2083, hcl2077, hSc2078, rfl, rfl⟩ := edit_Choose_1_ok F hF2080.preL  hx2074
  have hZ2082 := hSc2078.zle
  have hS2079 := hF2080.call hSc2078
  replace hS2079 : St _ _ _ _ _ _ [.blk b1840 [.int .i64 a1_c0.From, .int .i64 a1_c0.To, .string ⟨⟨a1_c0.Put.b⟩⟩], .gs v1838 c1839 (csz api_Edit)] := hS2079
  refine r_step rfl trivial (o_call hcl2077 rfl rfl rfl) ?_
  refine xf [(16, .bool r2073), (5, .int .i64 x2060), (0, v1838), (1, .func (.func 28) #[] #[.pointer (some ⟨b1840, 0, none⟩)]), (7, .int .i64 (a0.length : Int)), (8, .int .i64 x2060)] ?_
  rcases ifs ho2057 with ⟨hp2085, ho2057⟩ | ⟨hp2085, ho2057⟩
  refine W_condT (x := .tmp 16) (by kernel_rfl) rfl hp2085 ?_
  refine sr r36_5 ?_
  refine xe 2 [(4, .int .i64 x2060)] ?_
  refine rt ?_
  refine blkX_ret ?_
  refine blkX_ret ?_
  refine ⟨rfl, ?_⟩
  obtain rfl := Option.some.inj ho2057
  obtain rfl := Option.some.inj hm
  refine ⟨_, _, _, ResL.tmp rfl (ResL.nil), ((hS2079.front 0 rfl).front 1 rfl), ?_⟩
  exact ⟨rfl, rfl⟩
  refine W_condF (x := .tmp 16) (by kernel_rfl) rfl (Bool.eq_false_iff.2 hp2085) ?_
  refine sk ?_
  refine rg r36_6 ?_
  refine xe 2 [(8, .int .i64 (w64 (x2060 + 1))), (0, v1838), (1, .func (.func 28) #[] #[.pointer (some ⟨b1840, 0, none⟩)]), (7, .int .i64 (a0.length : Int))] ?_
  exact ⟨n2063, Nat.lt_succ_self _, ⟨_, w64 (x2060 + 1), ho2057, rfl, ((hS2079.front 0 rfl).front 1 rfl)⟩⟩
  refine r_step rfl trivial (o_cmp rfl rfl (c_lss_F hp2065)) ?_
  refine xf [(9, .bool false), (0, v1838), (1, .func (.func 28) #[] #[.pointer (some ⟨b1840, 0, none⟩)]), (7, .int .i64 (a0.length : Int)), (8, .int .i64 x2060)] ?_
  refine sq ?_
  refine cF 9 rfl ?_
  refine xt 0 ?_
  refine blkX_hit ?_
  obtain rfl := Option.some.inj ho2057
  exact ⟨_, rfl, rfl, hS2062⟩

def r27_0 : List COp := [u 4 (.assign (.const (.bool false)))]
def r27_1 : List COp := [u 5 (.move (t 0)), u 6 (.move (t 1)), u 7 (cf 36 #[(t 5), (t 6)] #[22, 51]), u 8 (.binOp .geq 3 (t 7) (ci 0) 3), u 4 (.assign (t 8))]
def slices_ContainsFunc_api_Edit (F : Nat) (a0 : List api_Edit) (a1_c0 : api_Edit) : Option Bool :=
  (slices_IndexFunc_api_Edit F a0 a1_c0).bind fun r2101 =>
  if (0 : Int) ≤ r2101 then
    some true
  else
    some false
theorem slices_ContainsFunc_api_Edit_ok (F : Nat) {h : AH} {Z : Zn} {a0 : List api_Edit} {a1_c0 : api_Edit} {v1834 : Value} {c1835 : List Value} {b1836 : Nat} (hP : Pre Z h [.gs v1834 c1835 (csz api_Edit), .blk b1836 [.int .i64 a1_c0.From, .int .i64 a1_c0.To, .string ⟨⟨a1_c0.Put.b⟩⟩]]) (q1833 : RCs (α := api_Edit) Z c1835 a0) {r : Bool} (hm : slices_ContainsFunc_api_Edit F a0 a1_c0 = some r) :
    ∃ v h' Z' A', callI Go.Proofs.Try.prog 27 [v1834, .func (.func 28) #[] #[.pointer (some ⟨b1836, 0, none⟩)]] h = some (v, h') ∧ St h (idsL [.gs v1834 c1835 (csz api_Edit), .blk b1836 [.int .i64 a1_c0.From, .int .i64 a1_c0.To, .string ⟨⟨a1_c0.Put.b⟩⟩]]) Z (0, 0) Z' h' A' ∧ .bool r = v ∧ A' = [.gs v1834 c1835 (csz api_Edit), .blk b1836 [.int .i64 a1_c0.From, .int .i64 a1_c0.To, .string ⟨⟨a1_c0.Put.b⟩⟩]] := by
  refine fn_intro (A := [.gs v1834 c1835 (csz api_Edit), .blk b1836 [.int .i64 a1_c0.From, .int .i64 a1_c0.To, .string ⟨⟨a1_c0.Put.b⟩⟩]]) (Q := fun v Z' A' => .bool r = v ∧ A' = [.gs v1834 c1835 (csz api_Edit), .blk b1836 [.int .i64 a1_c0.From, .int .i64 a1_c0.To, .string ⟨⟨a1_c0.Put.b⟩⟩]]) Go.Proofs.Try.func27 rfl rfl (by kernel_rfl) hP ?_
  intro hs hS
  unfold slices_ContainsFunc_api_Edit at hm
  refine sr r27_0 ?_
  refine xe 1 [(0, v1834), (1, .func (.func 28) #[] #[.pointer (some ⟨b1836, 0, none⟩)])] ?_
  refine sr r27_1 ?_
  refine xq 2 [(6, .func (.func 28) #[] #[.pointer (some ⟨b1836, 0, none⟩)]), (5, v1834)] ?_
  obtain ⟨r2101, hx2102, hm⟩ := obind hm
  have hF2108 : St _ _ _ _ _ _ ([.gs v1834 c1835 (csz api_Edit), .blk b1836 [.int .i64 a1_c0.From, .int .i64 a1_c0.To, .string ⟨⟨a1_c0.Put.b⟩⟩]] ++ []) := ((hS.front 1 rfl).front 1 rfl)
  obtain ⟨v2103, h2104, Z2109, A2111, hcl2105, hSc2106, rfl, rfl⟩ := slices_IndexFunc_api_Edit_ok F hF2108.preL q1833 hx2102
  have hZ2110 := hSc2106.zle
  have hS2107 := hF2108.call hSc2106
  replace hS2107 : St _ _ _ _ _ _ [.gs v1834 c1835 (csz api_Edit), .blk b1836 [.int .i64 a1_c0.From, .int .i64 a1_c0.To, .string ⟨⟨a1_c0.Put.b⟩⟩]] := hS2107
  refine r_step rfl trivial (o_call hcl2105 rfl rfl rfl) ?_
  rcases ifs hm with ⟨hp2112, hm⟩ | ⟨hp2112, hm⟩
  refine r_step rfl trivial (o_cmp rfl rfl (c_geq_T hp2112)) ?_
  refine xe 1 [(4, .bool true)] ?_
  refine rt ?_
  refine ⟨rfl, ?_⟩
  obtain rfl := Option.some.inj hm
  refine ⟨_, _, _, ResL.tmp rfl (ResL.nil), hS2107, ?_⟩
  exact ⟨rfl, rfl⟩
  refine r_step rfl trivial (o_cmp rfl rfl (c_geq_F hp2112)) ?_
  refine xe 1 [(4, .bool false)] ?_
  refine rt ?_
  refine ⟨rfl, ?_⟩
  obtain rfl := Option.some.inj hm
  refine ⟨_, _, _, ResL.tmp rfl (ResL.nil), hS2107, ?_⟩
  exact ⟨rfl, rfl⟩

def r43_0 : List COp := [u 2 (.assign (.const (.bool false)))]
def r43_1 : List COp := [u 3 (.move (t 0)), u 4 (.move (t 0)), u 5 (.binOp .neq 3 (t 3) (t 4) 3), u 2 (.assign (t 5))]
def cmp_isNaN_int (F : Nat) (a0 : Int) : Option Bool :=
  if a0 = a0 then
    some false
  else
    some true
theorem cmp_isNaN_int_ok (F : Nat) {h : AH} {Z : Zn} {a0 : Int} (hI : Inv Z h) {r : Bool} (hm : cmp_isNaN_int F a0 = some r) :
    ∃ v h', callI Go.Proofs.Try.prog 43 [.int .i64 a0] h = some (v, h') ∧ St h [] Z (0, 0) Z h' [] ∧ v = .bool r := by
  refine fn_plain (Q := fun v => v = .bool r) Go.Proofs.Try.func43 rfl rfl hI ?_
  intro hs hS
  unfold cmp_isNaN_int at hm
  refine sr r43_0 ?_
  refine xe 1 [(0, .int .i64 a0)] ?_
  refine sr r43_1 ?_
  refine xq 2 [(4, .int .i64 a0), (3, .int .i64 a0)] ?_
  rcases ifs hm with ⟨hp2320, hm⟩ | ⟨hp2320, hm⟩
  refine r_step rfl trivial (o_cmp rfl rfl (c_neq_F hp2320)) ?_
  refine xe 1 [(2, .bool false)] ?_
  refine rt ?_
  refine ⟨rfl, ?_⟩
  obtain rfl := Option.some.inj hm
  refine ⟨_, _, _, ResL.tmp rfl (ResL.nil), hS, ?_⟩
  exact rfl
  refine r_step rfl trivial (o_cmp rfl rfl (c_neq_T hp2320)) ?_
  refine xe 1 [(2, .bool true)] ?_
  refine rt ?_
  refine ⟨rfl, ?_⟩
  obtain rfl := Option.some.inj hm
  refine ⟨_, _, _, ResL.tmp rfl (ResL.nil), hS, ?_⟩
  exact rfl

def r40_0 : List COp := [u 4 (.assign (ci 0))]
def r40_1 : List COp := [u 7 (.move (t 0)), u 8 (cf 43 #[(t 7)] #[3]), u 5 (.assign (t 8))]
def r40_2 : List COp := [u 9 (.move (t 1)), u 10 (cf 43 #[(t 9)] #[3]), u 6 (.assign (t 10))]
def r40_3 : List COp := [u 11 (.move (t 5))]
def r40_4 : List COp := [u 12 (.move (t 6))]
def r40_5 : List COp := [u 4 (.assign (ci 0))]
def r40_6 : List COp := [u 4 (.assign (ci (-1)))]
def r40_7 : List COp := [u 13 (.move (t 6))]
def r40_8 : List COp := [u 4 (.assign (ci 1))]
def r40_9 : List COp := [u 14 (.move (t 0)), u 15 (.move (t 1)), u 16 (.binOp .lss 3 (t 14) (t 15) 3)]
def r40_10 : List COp := [u 4 (.assign (ci (-1)))]
def r40_11 : List COp := [u 17 (.move (t 0)), u 18 (.move (t 1)), u 19 (.binOp .gtr 3 (t 17) (t 18) 3)]
def r40_12 : List COp := [u 4 (.assign (ci 1))]
def r40_13 : List COp := [u 4 (.assign (ci 0))]
def cmp_Compare_int (F : Nat) (a0 : Int) (a1 : Int) : Option Int :=
  (cmp_isNaN_int F a0).bind fun r2352 =>
  (cmp_isNaN_int F a1).bind fun r2359 =>
  if r2352 = true then
    if r2359 = true then
      some 0
    else
      some (-1)
  else
    if r2359 = true then
      some 1
    else
      if a0 < a1 then
        some (-1)
      else
        if a1 < a0 then
          some 1
        else
          some 0
theorem cmp_Compare_int_ok (F : Nat) {h : AH} {Z : Zn} {a0 : Int} {a1 : Int} (hI : Inv Z h) {r : Int} (hm : cmp_Compare_int F a0 a1 = some r) :
    ∃ v h', callI Go.Proofs.Try.prog 40 [.int .i64 a0, .int .i64 a1] h = some (v, h') ∧ St h [] Z (0, 0) Z h' [] ∧ v = .int .i64 r := by
  refine fn_plain (Q := fun v => v = .int .i64 r) Go.Proofs.Try.func40 rfl rfl hI ?_
  intro hs hS
  unfold cmp_Compare_int at hm
  refine sr r40_0 ?_
  refine xe 1 [(0, .int .i64 a0), (1, .int .i64 a1)] ?_
  refine sr r40_1 ?_
  refine xq 1 [(7, .int .i64 a0), (0, .int .i64 a0), (1, .int .i64 a1)] ?_
  obtain ⟨r2352, hx2353, hm⟩ := obind hm
  obtain ⟨v2354, h2355, hcl2356, hSc2357, rfl⟩ := cmp_isNaN_int_ok F hS.inv  hx2353
  have hS2358 := St.call (A := []) (B := []) hS hSc2357
  replace hS2358 : St _ _ _ _ _ _ [] := hS2358
  refine r_step rfl trivial (o_call hcl2356 rfl rfl rfl) ?_
  refine xe 1 [(5, .bool r2352), (0, .int .i64 a0), (1, .int .i64 a1)] ?_
  refine sr r40_2 ?_
  refine xq 1 [(9, .int .i64 a1), (5, .bool r2352), (0, .int .i64 a0), (1, .int .i64 a1)] ?_
  obtain ⟨r2359, hx2360, hm⟩ := obind hm
  obtain ⟨v2361, h2362, hcl2363, hSc2364, rfl⟩ := cmp_isNaN_int_ok F hS2358.inv  hx2360
  have hS2365 := St.call (A := []) (B := []) hS2358 hSc2364
  replace hS2365 : St _ _ _ _ _ _ [] := hS2365
  refine r_step rfl trivial (o_call hcl2363 rfl rfl rfl) ?_
  refine xe 1 [(6, .bool r2359), (5, .bool r2352), (0, .int .i64 a0), (1, .int .i64 a1)] ?_
  refine sq ?_
  refine sr r40_3 ?_
  refine xe 1 [(11, .bool r2352), (6, .bool r2359), (0, .int .i64 a0), (1, .int .i64 a1)] ?_
  rcases ifs hm with ⟨hp2372, hm⟩ | ⟨hp2372, hm⟩
  refine W_condT (x := .tmp 11) (by kernel_rfl) rfl hp2372 ?_
  refine sq ?_
  refine sr r40_4 ?_
  refine xe 1 [(12, .bool r2359)] ?_
  rcases ifs hm with ⟨hp2374, hm⟩ | ⟨hp2374, hm⟩
  refine W_condT (x := .tmp 12) (by kernel_rfl) rfl hp2374 ?_
  refine sr r40_5 ?_
  refine xe 1 [(4, .int .i64 0)] ?_
  refine rt ?_
  refine ⟨rfl, ?_⟩
  obtain rfl := Option.some.inj hm
  refine ⟨_, _, _, ResL.tmp rfl (ResL.nil), hS2365, ?_⟩
  exact rfl
  refine W_condF (x := .tmp 12) (by kernel_rfl) rfl (Bool.eq_false_iff.2 hp2374) ?_
  refine sk ?_
  refine sr r40_6 ?_
  refine xe 1 [(4, .int .i64 (-1))] ?_
  refine rt ?_
  refine ⟨rfl, ?_⟩
  obtain rfl := Option.some.inj hm
  refine ⟨_, _, _, ResL.tmp rfl (ResL.nil), hS2365, ?_⟩
  exact rfl
  refine W_condF (x := .tmp 11) (by kernel_rfl) rfl (Bool.eq_false_iff.2 hp2372) ?_
  refine sk ?_
  refine sq ?_
  refine sr r40_7 ?_
  refine xe 1 [(13, .bool r2359), (0, .int .i64 a0), (1, .int .i64 a1)] ?_
  rcases ifs hm with ⟨hp2377, hm⟩ | ⟨hp2377, hm⟩
  refine W_condT (x := .tmp 13) (by kernel_rfl) rfl hp2377 ?_
  refine sr r40_8 ?_
  refine xe 1 [(4, .int .i64 1)] ?_
  refine rt ?_
  refine ⟨rfl, ?_⟩
  obtain rfl := Option.some.inj hm
  refine ⟨_, _, _, ResL.tmp rfl (ResL.nil), hS2365, ?_⟩
  exact rfl
  refine W_condF (x := .tmp 13) (by kernel_rfl) rfl (Bool.eq_false_iff.2 hp2377) ?_
  refine sk ?_
  refine sq ?_
  refine sr r40_9 ?_
  refine xq 2 [(15, .int .i64 a1), (14, .int .i64 a0), (0, .int .i64 a0), (1, .int .i64 a1)] ?_
  rcases ifs hm with ⟨hp2380, hm⟩ | ⟨hp2380, hm⟩
  refine r_step rfl trivial (o_cmp rfl rfl (c_lss_T hp2380)) ?_
  refine xf [(16, .bool true), (0, .int .i64 a0), (1, .int .i64 a1)] ?_
  refine cT 16 rfl ?_
  refine sr r40_10 ?_
  refine xe 1 [(4, .int .i64 (-1))] ?_
  refine rt ?_
  refine ⟨rfl, ?_⟩
  obtain rfl := Option.some.inj hm
  refine ⟨_, _, _, ResL.tmp rfl (ResL.nil), hS2365, ?_⟩
  exact rfl
  refine r_step rfl trivial (o_cmp rfl rfl (c_lss_F hp2380)) ?_
  refine xf [(16, .bool false), (0, .int .i64 a0), (1, .int .i64 a1)] ?_
  refine kF 16 rfl ?_
  refine sq ?_
  refine sr r40_11 ?_
  refine xq 2 [(18, .int .i64 a1), (17, .int .i64 a0)] ?_
  rcases ifs hm with ⟨hp2382, hm⟩ | ⟨hp2382, hm⟩
  refine r_step rfl trivial (o_cmp rfl rfl (c_gtr_T hp2382)) ?_
  refine xf [(19, .bool true)] ?_
  refine cT 19 rfl ?_
  refine sr r40_12 ?_
  refine xe 1 [(4, .int .i64 1)] ?_
  refine rt ?_
  refine ⟨rfl, ?_⟩
  obtain rfl := Option.some.inj hm
  refine ⟨_, _, _, ResL.tmp rfl (ResL.nil), hS2365, ?_⟩
  exact rfl
  refine r_step rfl trivial (o_cmp rfl rfl (c_gtr_F hp2382)) ?_
  refine xf [(19, .bool false)] ?_
  refine kF 19 rfl ?_
  refine sr r40_13 ?_
  refine xe 1 [(4, .int .i64 0)] ?_
  refine rt ?_
  refine ⟨rfl, ?_⟩
  obtain rfl := Option.some.inj hm
  refine ⟨_, _, _, ResL.tmp rfl (ResL.nil), hS2365, ?_⟩
  exact rfl

def r39_0 : List COp := [u 2 (.assign (ci 0))]
def r39_1 : List COp := [u 3 (.assign (ci 0))]
def r39_2 : List COp := [u 6 (.move (t 0)), u 7 (cb .len #[(t 6)] #[66]), u 8 (.move (ci 0))]
def r39_3 : List COp := [u 9 (.binOp .lss 3 (t 8) (t 7) 3)]
def r39_4 : List COp := [u 10 (.indexAddr 66 (t 6) (t 8)), u 11 (.load 3 (t 10)), u 5 (.assign (t 11))]
def r39_5 : List COp := [u 12 (.move (t 5)), u 13 (.move (t 3)), u 14 (.binOp .neq 3 (t 12) (t 13) 3)]
def r39_6 : List COp := [u 15 (.move (t 5)), u 2 (.assign (t 15))]
def r39_7 : List COp := [u 16 (.binOp .add 3 (t 8) (ci 1) 3), u 8 (.move (t 16))]
def r39_8 : List COp := [u 17 (.move (t 3)), u 2 (.assign (t 17))]
def cmp_Or_int_l0 (F : Nat) (a0 : List Int) : Nat → Int → Option (Sum Unit Int)
  | 0, _ => none
  | n + 1, x2478 =>
    if x2478 < (a0.length : Int) then
      if 0 ≤ x2478 ∧ x2478 < (a0.length : Int) then
        (a0[x2478.toNat]?).bind fun x2485 =>
        if x2485 = (0 : Int) then
          cmp_Or_int_l0 F a0 n (w64 (x2478 + 1))
        else
          some (.inr x2485)
      else none
    else
      some (.inl ())
def cmp_Or_int (F : Nat) (a0 : List Int) : Option Int :=
  ((cmp_Or_int_l0 F a0 F 0) : Option (Sum Unit Int)).bind fun o => match o with
    | .inl () => some 0
    | .inr y => some y
theorem cmp_Or_int_ok (F : Nat) {h : AH} {Z : Zn} {a0 : List Int} {v2413 : Value} (hI : Inv Z h) (q2412 : RS (α := Int) Z v2413 a0) {r : Int} (hm : cmp_Or_int F a0 = some r) :
    ∃ v h', callI Go.Proofs.Try.prog 39 [v2413] h = some (v, h') ∧ St h [] Z (0, 0) Z h' [] ∧ v = .int .i64 r := by
  refine fn_plain (Q := fun v => v = .int .i64 r) Go.Proofs.Try.func39 rfl rfl hI ?_
  intro hs hS
  unfold cmp_Or_int at hm
  refine sr r39_0 ?_
  refine xe 1 [(0, v2413)] ?_
  refine sr r39_1 ?_
  refine xe 1 [(3, .int .i64 0), (0, v2413)] ?_
  refine sq ?_
  refine sr r39_2 ?_
  refine xq 1 [(6, v2413), (3, .int .i64 0)] ?_
  refine r_step rfl trivial (o_len rfl (RS.len q2412) ⟨_, Go.Proofs.Try.underlying66⟩) ?_
  refine xe 1 [(8, .int .i64 0), (7, .int .i64 (a0.length : Int)), (6, v2413), (3, .int .i64 0)] ?_
  obtain ⟨o2476, ho2475, hm⟩ := obind hm
  refine W_join [3] (fun l h => ∃ Z2493 : Zn, .inl () = o2476 ∧ l = [(3, .int .i64 0)] ∧ St hs [] Z (0, 0) Z2493 h []) ?_ ?_
  rintro l h2494 ⟨Z2493, rfl, rfl, hS2495⟩
  try dsimp only at hm
  refine sr r39_8 ?_
  refine xe 2 [(2, .int .i64 0)] ?_
  refine rt ?_
  refine ⟨rfl, ?_⟩
  obtain rfl := Option.some.inj hm
  refine ⟨_, _, _, ResL.tmp rfl (ResL.nil), hS2495, ?_⟩
  exact rfl
  refine bk 0 ?_
  refine lp [3, 6, 7, 8] (fun n l h => ∃ Z2477 : Zn, ∃ x2478 : Int, cmp_Or_int_l0 F a0 n x2478 = some o2476 ∧ l = [(3, .int .i64 0), (6, v2413), (7, .int .i64 (a0.length : Int)), (8, .int .i64 x2478)] ∧ St hs [] Z (0, 0) Z2477 h []) F ⟨_, 0, ho2475, rfl, hS⟩ ?_
  rintro n2481 l h2479 ⟨Z2477, x2478, ho2475, rfl, hS2480⟩
  rcases n2481 with _ | n2481
  cases (show none = some o2476 from ho2475)
  rw [cmp_Or_int_l0] at ho2475
  refine sr r39_3 ?_
  rcases ifs ho2475 with ⟨hp2483, ho2475⟩ | ⟨hp2483, ho2475⟩
  refine r_step rfl trivial (o_cmp rfl rfl (c_lss_T hp2483)) ?_
  refine xf [(9, .bool true), (3, .int .i64 0), (6, v2413), (7, .int .i64 (a0.length : Int)), (8, .int .i64 x2478)] ?_
  refine sq ?_
  refine kT 9 rfl ?_
  refine sq ?_
  refine bk 1 ?_
  refine sr r39_4 ?_
  obtain ⟨hc2484, ho2475⟩ := chk ho2475
  refine r_step rfl trivial (o_index rfl rfl (by kernel_rfl : slTy _ _ = some (csz Int)) (RS.based (q2412.mono hS2480.zle) (by omega)) hc2484.1 hc2484.2) ?_
  obtain ⟨x2485, hx2486, ho2475⟩ := obind ho2475
  obtain ⟨cs2487, hc2488, he2489⟩ := RS.elz (q2412.mono hS2480.zle) (i := x2478) hx2486
  obtain rfl := rc_Int hc2488
  refine r_step rfl trivial (o_lde (w := .int .i64 x2485) (he2489 _ (hS2480.zin0 (Zle.refl _))) rfl (by kernel_rfl)) ?_
  refine xe 1 [(5, .int .i64 x2485), (3, .int .i64 0), (6, v2413), (7, .int .i64 (a0.length : Int)), (8, .int .i64 x2478)] ?_
  refine sr r39_5 ?_
  refine xq 2 [(13, .int .i64 0), (12, .int .i64 x2485), (5, .int .i64 x2485), (3, .int .i64 0), (6, v2413), (7, .int .i64 (a0.length : Int)), (8, .int .i64 x2478)] ?_
  rcases ifs ho2475 with ⟨hp2492, ho2475⟩ | ⟨hp2492, ho2475⟩
  refine r_step rfl trivial (o_cmp rfl rfl (c_neq_F hp2492)) ?_
  refine xf [(14, .bool false), (5, .int .i64 x2485), (3, .int .i64 0), (6, v2413), (7, .int .i64 (a0.length : Int)), (8, .int .i64 x2478)] ?_
  refine kF 14 rfl ?_
  refine rg r39_7 ?_
  refine xe 2 [(8, .int .i64 (w64 (x2478 + 1))), (3, .int .i64 0), (6, v2413), (7, .int .i64 (a0.length : Int))] ?_
  exact ⟨n2481, Nat.lt_succ_self _, ⟨_, w64 (x2478 + 1), ho2475, rfl, hS2480⟩⟩
  refine r_step rfl trivial (o_cmp rfl rfl (c_neq_T hp2492)) ?_
  refine xf [(14, .bool true), (5, .int .i64 x2485), (3, .int .i64 0), (6, v2413), (7, .int .i64 (a0.length : Int)), (8, .int .i64 x2478)] ?_
  refine cT 14 rfl ?_
  refine sr r39_6 ?_
  refine xe 2 [(2, .int .i64 x2485)] ?_
  refine rt ?_
  refine blkX_ret ?_
  refine blkX_ret ?_
  refine ⟨rfl, ?_⟩
  obtain rfl := Option.some.inj ho2475
  obtain rfl := Option.some.inj hm
  refine ⟨_, _, _, ResL.tmp rfl (ResL.nil), hS2480, ?_⟩
  exact rfl
  refine r_step rfl trivial (o_cmp rfl rfl (c_lss_F hp2483)) ?_
  refine xf [(9, .bool false), (3, .int .i64 0), (6, v2413), (7, .int .i64 (a0.length : Int)), (8, .int .i64 x2478)] ?_
  refine sq ?_
  refine cF 9 rfl ?_
  refine xt 0 ?_
  refine blkX_hit ?_
  obtain rfl := Option.some.inj ho2475
  exact ⟨_, rfl, rfl, hS2480⟩

def r32_0 : List COp := [u 4 (.assign (ci 0))]
def r32_1 : List COp := [u 10 (.move (t 0)), u 11 (.typeAssert (t 10) 20 29 true), u 9 (.move (t 11)), u 12 (.extract (t 9) 0), u 13 (.extract (t 9) 1), u 5 (.alloc 29), o (.store 29 (t 5) (t 12)), u 6 (.assign (t 13))]
def r32_2 : List COp := [u 15 (.move (t 1)), u 16 (.typeAssert (t 15) 20 29 true), u 14 (.move (t 16)), u 17 (.extract (t 14) 0), u 18 (.extract (t 14) 1), u 7 (.alloc 29), o (.store 29 (t 7) (t 17)), u 8 (.assign (t 18))]
def r32_3 : List COp := [u 19 (.move (t 6)), u 20 (.unOp .not 4 (t 19)), u 21 (.move (t 20)), gN 21 (some 22) (.move (t 8)), gN 21 (some 23) (.unOp .not 4 (t 22)), u 24 (.pick (t 21) (.const (.bool true)) (t 23))]
def r32_5 : List COpF := [uF 25 (.fieldAddr 29 (t 5) 0) .pure [], uF 26 (.load 3 (t 25)) .look [], uF 27 (.fieldAddr 29 (t 7) 0) .pure [], uF 28 (.load 3 (t 27)) .look [], uF 29 (cf 40 #[(t 26), (t 28)] #[3, 3]) .make [1, 3], uF 30 (.fieldAddr 29 (t 5) 1) .pure [], uF 31 (.load 3 (t 30)) .look [], uF 32 (.fieldAddr 29 (t 7) 1) .pure [], uF 33 (.load 3 (t 32)) .look [], uF 34 (cf 40 #[(t 31), (t 33)] #[3, 3]) .make [1, 3, 6, 8], uF 35 (.buildSlice 66 2 #[(0, (t 29)), (1, (t 34))]) .fresh [], uF 36 (cf 39 #[(t 35)] #[66]) .make [1, 3, 6, 8], uF 4 (.assign (t 36)) .pure []]
def edit_order (F : Nat) (a0 : api_Edit) (a1 : api_Edit) : Option Int :=
  (cmp_Compare_int F a0.From a1.From).bind fun r2527 =>
  (cmp_Compare_int F a0.To a1.To).bind fun r2539 =>
  (cmp_Or_int F ([r2527, r2539] : List Int)).bind fun r2560 =>
  some r2560
theorem edit_order_ok (F : Nat) {h : AH} {Z : Zn} {a0 : api_Edit} {a1 : api_Edit} (hI : Inv Z h) {r : Int} (hm : edit_order F a0 a1 = some r) :
    ∃ v h', callI Go.Proofs.Try.prog 32 [.iface 29 (.agg #[.int .i64 a0.From, .int .i64 a0.To, .string ⟨⟨a0.Put.b⟩⟩]), .iface 29 (.agg #[.int .i64 a1.From, .int .i64 a1.To, .string ⟨⟨a1.Put.b⟩⟩])] h = some (v, h') ∧ St h [] Z (0, 0) Z h' [] ∧ v = .int .i64 r := by
  refine fn_plain (Q := fun v => v = .int .i64 r) Go.Proofs.Try.func32 rfl rfl hI ?_
  intro hs hS
  unfold edit_order at hm
  refine sr r32_0 ?_
  refine xe 1 [(0, .iface 29 (.agg #[.int .i64 a0.From, .int .i64 a0.To, .string ⟨⟨a0.Put.b⟩⟩])), (1, .iface 29 (.agg #[.int .i64 a1.From, .int .i64 a1.To, .string ⟨⟨a1.Put.b⟩⟩]))] ?_
  refine sr r32_1 ?_
  refine xq 5 [(13, .bool true), (12, .agg #[.int .i64 a0.From, .int .i64 a0.To, .string ⟨⟨a0.Put.b⟩⟩]), (1, .iface 29 (.agg #[.int .i64 a1.From, .int .i64 a1.To, .string ⟨⟨a1.Put.b⟩⟩]))] ?_
  refine r_blk rfl trivial (o_alloc (cs := [.int .i64 0, .int .i64 0, .string ⟨⟨[]⟩⟩]) (by kernel_rfl)) hS ?_
  intro b2511 h2512 hS2513
  refine r_ex1 rfl trivial (o_stb (vs := [.int .i64 a0.From, .int .i64 a0.To, .string ⟨⟨a0.Put.b⟩⟩]) (cells' := [.int .i64 a0.From, .int .i64 a0.To, .string ⟨⟨a0.Put.b⟩⟩]) (L' := [.blk b2511 [.int .i64 a0.From, .int .i64 a0.To, .string ⟨⟨a0.Put.b⟩⟩]]) hS2513 (i := 0) rfl rfl rfl rfl (by kernel_rfl) rfl rfl rfl rfl) ?_
  intro h2514 hS2515
  refine xe 1 [(6, .bool true), (5, .pointer (some ⟨b2511, 0, none⟩)), (1, .iface 29 (.agg #[.int .i64 a1.From, .int .i64 a1.To, .string ⟨⟨a1.Put.b⟩⟩]))] ?_
  refine sr r32_2 ?_
  refine xq 5 [(18, .bool true), (17, .agg #[.int .i64 a1.From, .int .i64 a1.To, .string ⟨⟨a1.Put.b⟩⟩]), (6, .bool true), (5, .pointer (some ⟨b2511, 0, none⟩))] ?_
  refine r_blk rfl trivial (o_alloc (cs := [.int .i64 0, .int .i64 0, .string ⟨⟨[]⟩⟩]) (by kernel_rfl)) hS2515 ?_
  intro b2516 h2517 hS2518
  refine r_ex1 rfl trivial (o_stb (vs := [.int .i64 a1.From, .int .i64 a1.To, .string ⟨⟨a1.Put.b⟩⟩]) (cells' := [.int .i64 a1.From, .int .i64 a1.To, .string ⟨⟨a1.Put.b⟩⟩]) (L' := [.blk b2516 [.int .i64 a1.From, .int .i64 a1.To, .string ⟨⟨a1.Put.b⟩⟩], .blk b2511 [.int .i64 a0.From, .int .i64 a0.To, .string ⟨⟨a0.Put.b⟩⟩]]) hS2518 (i := 0) rfl rfl rfl rfl (by kernel_rfl) rfl rfl rfl rfl) ?_
  intro h2519 hS2520
  refine xe 1 [(8, .bool true), (7, .pointer (some ⟨b2516, 0, none⟩)), (6, .bool true), (5, .pointer (some ⟨b2511, 0, none⟩))] ?_
  refine sq ?_
  refine sr r32_3 ?_
  refine xe 6 [(24, .bool false), (7, .pointer (some ⟨b2516, 0, none⟩)), (5, .pointer (some ⟨b2511, 0, none⟩))] ?_
  refine kF 24 rfl ?_
  refine srF r32_5 hS2520 ?_
  intro bs2521 h2522 hlv2524 hS2523
  refine yq 1 [(25, .pointer (some ⟨b2511, 0, none⟩)), (7, .pointer (some ⟨b2516, 0, none⟩)), (5, .pointer (some ⟨b2511, 0, none⟩))] ?_
  have lt2525 : b2511 < bs2521 := hlv2524.1 _ (List.mem_of_getElem? (i := 1) rfl) _ (by simp [Itm.ids])
  refine e_lookB rfl trivial rfl (by show b2511 < _; omega) (same1 (v := .int .i64 a0.From) trivial) (o_ldb (v := .int .i64 a0.From) hS2523 (i := 1) rfl rfl (by kernel_rfl)) trivial ?_
  refine yq 1 [(27, .pointer (some ⟨b2516, 0, none⟩)), (26, .int .i64 a0.From), (7, .pointer (some ⟨b2516, 0, none⟩)), (5, .pointer (some ⟨b2511, 0, none⟩))] ?_
  have lt2526 : b2516 < bs2521 := hlv2524.1 _ (List.mem_of_getElem? (i := 0) rfl) _ (by simp [Itm.ids])
  refine e_lookB rfl trivial rfl (by show b2516 < _; omega) (same1 (v := .int .i64 a1.From) trivial) (o_ldb (v := .int .i64 a1.From) hS2523 (i := 0) rfl rfl (by kernel_rfl)) trivial ?_
  obtain ⟨r2527, hx2528, hm⟩ := obind hm
  have hSl2534 := hS2523.lown
  obtain ⟨v2529, h2530, hcl2531, hSc2532, rfl⟩ := cmp_Compare_int_ok F hSl2534.inv  hx2528
  have hS2533 := St.call (A := []) (B := [.blk b2516 [.int .i64 a1.From, .int .i64 a1.To, .string ⟨⟨a1.Put.b⟩⟩], .blk b2511 [.int .i64 a0.From, .int .i64 a0.To, .string ⟨⟨a0.Put.b⟩⟩]]) hSl2534 hSc2532
  replace hS2533 : St _ _ _ _ _ _ [.blk b2516 [.int .i64 a1.From, .int .i64 a1.To, .string ⟨⟨a1.Put.b⟩⟩], .blk b2511 [.int .i64 a0.From, .int .i64 a0.To, .string ⟨⟨a0.Put.b⟩⟩]] := hS2533
  refine e_still rfl trivial hS2523 (o_call hcl2531 rfl rfl rfl) hS2533 (St.lowk hSc2532) ?_
  intro h2535 hS2536
  refine yq 1 [(30, .pointer (some ⟨b2511, 1, none⟩)), (29, .int .i64 r2527), (7, .pointer (some ⟨b2516, 0, none⟩))] ?_
  have lt2537 : b2511 < bs2521 := hlv2524.1 _ (List.mem_of_getElem? (i := 1) rfl) _ (by simp [Itm.ids])
  refine e_lookB rfl trivial rfl (by show b2511 < _; omega) (same1 (v := .int .i64 a0.To) trivial) (o_ldb (v := .int .i64 a0.To) hS2536 (i := 1) rfl rfl (by kernel_rfl)) trivial ?_
  refine yq 1 [(32, .pointer (some ⟨b2516, 1, none⟩)), (31, .int .i64 a0.To), (29, .int .i64 r2527)] ?_
  have lt2538 : b2516 < bs2521 := hlv2524.1 _ (List.mem_of_getElem? (i := 0) rfl) _ (by simp [Itm.ids])
  refine e_lookB rfl trivial rfl (by show b2516 < _; omega) (same1 (v := .int .i64 a1.To) trivial) (o_ldb (v := .int .i64 a1.To) hS2536 (i := 0) rfl rfl (by kernel_rfl)) trivial ?_
  obtain ⟨r2539, hx2540, hm⟩ := obind hm
  have hSl2546 := hS2536.lown
  obtain ⟨v2541, h2542, hcl2543, hSc2544, rfl⟩ := cmp_Compare_int_ok F hSl2546.inv  hx2540
  have hS2545 := St.call (A := []) (B := [.blk b2516 [.int .i64 a1.From, .int .i64 a1.To, .string ⟨⟨a1.Put.b⟩⟩], .blk b2511 [.int .i64 a0.From, .int .i64 a0.To, .string ⟨⟨a0.Put.b⟩⟩]]) hSl2546 hSc2544
  replace hS2545 : St _ _ _ _ _ _ [.blk b2516 [.int .i64 a1.From, .int .i64 a1.To, .string ⟨⟨a1.Put.b⟩⟩], .blk b2511 [.int .i64 a0.From, .int .i64 a0.To, .string ⟨⟨a0.Put.b⟩⟩]] := hS2545
  refine e_still rfl trivial hS2536 (o_call hcl2543 rfl rfl rfl) hS2545 (St.lowk hSc2544) ?_
  intro h2547 hS2548
  have q2552 : RCs (α := Int) Z [.int .i64 r2527, .int .i64 r2539] ([r2527, r2539] : List Int) := RCs.cons (cs := [.int .i64 r2527]) rfl (RCs.cons (cs := [.int .i64 r2539]) rfl (RCs.nil0 _))
  refine e_row rfl trivial (o_bs (cells := [.int .i64 r2527, .int .i64 r2539]) (s := 1) (by kernel_rfl)) (by kernel_rfl) hS2548 (by omega) (Nat.add_lt_add_left (by decide) _) ?_
  intro v2549 h2550 b2553 eb2554 ec2555 hS2551
  replace hS2551 : St _ _ _ _ _ _ [.gs v2549 [.int .i64 r2527, .int .i64 r2539] (csz Int), .blk b2516 [.int .i64 a1.From, .int .i64 a1.To, .string ⟨⟨a1.Put.b⟩⟩], .blk b2511 [.int .i64 a0.From, .int .i64 a0.To, .string ⟨⟨a0.Put.b⟩⟩]] := hS2551
  obtain ⟨Z2556, hZ2557, q2558, hS2559⟩ := (hS2551.front 0 rfl).freeze q2552
  replace hS2559 : St _ _ _ _ _ _ [.blk b2516 [.int .i64 a1.From, .int .i64 a1.To, .string ⟨⟨a1.Put.b⟩⟩], .blk b2511 [.int .i64 a0.From, .int .i64 a0.To, .string ⟨⟨a0.Put.b⟩⟩]] := hS2559
  obtain ⟨r2560, hx2561, hm⟩ := obind hm
  have hSl2567 := hS2559.lown
  obtain ⟨v2562, h2563, hcl2564, hSc2565, rfl⟩ := cmp_Or_int_ok F hSl2567.inv q2558 hx2561
  have hS2566 := St.call (A := []) (B := [.blk b2516 [.int .i64 a1.From, .int .i64 a1.To, .string ⟨⟨a1.Put.b⟩⟩], .blk b2511 [.int .i64 a0.From, .int .i64 a0.To, .string ⟨⟨a0.Put.b⟩⟩]]) hSl2567 hSc2565
  replace hS2566 : St _ _ _ _ _ _ [.blk b2516 [.int .i64 a1.From, .int .i64 a1.To, .string ⟨⟨a1.Put.b⟩⟩], .blk b2511 [.int .i64 a0.From, .int .i64 a0.To, .string ⟨⟨a0.Put.b⟩⟩]] := hS2566
  refine e_still rfl trivial hS2559 (o_call hcl2564 rfl rfl rfl) hS2566 (St.lowk hSc2565) ?_
  intro h2568 hS2569
  refine ye 1 [(4, .int .i64 r2560)] ?_
  have hS2570 := hS2569.unres
  refine rt ?_
  refine ⟨rfl, ?_⟩
  obtain rfl := Option.some.inj hm
  refine ⟨_, _, _, ResL.tmp rfl (ResL.nil), hS2570, ?_⟩
  exact rfl

def r31_0 : List COp := [u 2 (.box 29 (t 0)), u 3 (.box 29 (t 1)), u 4 (.assign (ci 0))]
def r31_1 : List COp := [u 5 (.load 29 (t 2)), u 6 (.makeInterface 29 (t 5)), u 7 (.load 29 (t 3)), u 8 (.makeInterface 29 (t 7)), u 9 (cf 32 #[(t 6), (t 8)] #[20, 20]), u 4 (.assign (t 9))]
def edit_Choose_2 (F : Nat) (a0 : api_Edit) (a1 : api_Edit) : Option Int :=
  (edit_order F a0 a1).bind fun r2584 =>
  some r2584
theorem edit_Choose_2_ok (F : Nat) {h : AH} {Z : Zn} {a0 : api_Edit} {a1 : api_Edit} (hI : Inv Z h) {r : Int} (hm : edit_Choose_2 F a0 a1 = some r) :
    ∃ v h', callI Go.Proofs.Try.prog 31 [.agg #[.int .i64 a0.From, .int .i64 a0.To, .string ⟨⟨a0.Put.b⟩⟩], .agg #[.int .i64 a1.From, .int .i64 a1.To, .string ⟨⟨a1.Put.b⟩⟩]] h = some (v, h') ∧ St h [] Z (0, 0) Z h' [] ∧ v = .int .i64 r := by
  refine fn_plain (Q := fun v => v = .int .i64 r) Go.Proofs.Try.func31 rfl rfl hI ?_
  intro hs hS
  unfold edit_Choose_2 at hm
  refine sr r31_0 ?_
  refine r_blk rfl trivial (o_box (cs := [.int .i64 a0.From, .int .i64 a0.To, .string ⟨⟨a0.Put.b⟩⟩]) rfl rfl) hS ?_
  intro b2578 h2579 hS2580
  refine r_blk rfl trivial (o_box (cs := [.int .i64 a1.From, .int .i64 a1.To, .string ⟨⟨a1.Put.b⟩⟩]) rfl rfl) hS2580 ?_
  intro b2581 h2582 hS2583
  refine xe 1 [(3, .pointer (some ⟨b2581, 0, none⟩)), (2, .pointer (some ⟨b2578, 0, none⟩))] ?_
  refine sr r31_1 ?_
  refine r_step rfl trivial (o_ldb (v := .agg #[.int .i64 a0.From, .int .i64 a0.To, .string ⟨⟨a0.Put.b⟩⟩]) hS2583 (i := 1) rfl rfl (by kernel_rfl)) ?_
  refine xq 1 [(6, .iface 29 (.agg #[.int .i64 a0.From, .int .i64 a0.To, .string ⟨⟨a0.Put.b⟩⟩])), (3, .pointer (some ⟨b2581, 0, none⟩))] ?_
  refine r_step rfl trivial (o_ldb (v := .agg #[.int .i64 a1.From, .int .i64 a1.To, .string ⟨⟨a1.Put.b⟩⟩]) hS2583 (i := 0) rfl rfl (by kernel_rfl)) ?_
  refine xq 1 [(8, .iface 29 (.agg #[.int .i64 a1.From, .int .i64 a1.To, .string ⟨⟨a1.Put.b⟩⟩])), (6, .iface 29 (.agg #[.int .i64 a0.From, .int .i64 a0.To, .string ⟨⟨a0.Put.b⟩⟩]))] ?_
  obtain ⟨r2584, hx2585, hm⟩ := obind hm
  obtain ⟨v2586, h2587, hcl2588, hSc2589, rfl⟩ := edit_order_ok F hS2583.inv  hx2585
  have hS2590 := St.call (A := []) (B := [.blk b2581 [.int .i64 a1.From, .int .i64 a1.To, .string ⟨⟨a1.Put.b⟩⟩], .blk b2578 [.int .i64 a0.From, .int .i64 a0.To, .string ⟨⟨a0.Put.b⟩⟩]]) hS2583 hSc2589
  replace hS2590 : St _ _ _ _ _ _ [.blk b2581 [.int .i64 a1.From, .int .i64 a1.To, .string ⟨⟨a1.Put.b⟩⟩], .blk b2578 [.int .i64 a0.From, .int .i64 a0.To, .string ⟨⟨a0.Put.b⟩⟩]] := hS2590
  refine r_step rfl trivial (o_call hcl2588 rfl rfl rfl) ?_
  refine xe 1 [(4, .int .i64 r2584)] ?_
  refine rt ?_
  refine ⟨rfl, ?_⟩
  obtain rfl := Option.some.inj hm
  refine ⟨_, _, _, ResL.tmp rfl (ResL.nil), hS2590, ?_⟩
  exact rfl

def r41_0 : List COp := [u 10 (.move (t 1)), u 11 (.binOp .add 3 (t 10) (ci 1) 3), u 8 (.assign (t 11))]
def r41_1 : List COp := [u 12 (.move (t 8)), u 13 (.move (t 2)), u 14 (.binOp .lss 3 (t 12) (t 13) 3)]
def r41_2 : List COp := [u 15 (.move (t 8)), u 16 (.binOp .add 3 (t 15) (ci 1) 3), u 8 (.assign (t 16))]
def r41_3 : List COp := [u 17 (.move (t 8)), u 9 (.assign (t 17))]
def r41_4 : List COpF := [uF 18 (.move (t 9)) .pure [], uF 19 (.move (t 1)) .pure [], uF 20 (.binOp .gtr 3 (t 18) (t 19) 3) .pure [], uF 21 (.move (t 20)) .pure [], gTF 21 (some 22) (.move (t 3)) .pure [], gTF 21 (some 23) (.move (t 0)) .pure [], gTF 21 (some 24) (.move (t 9)) .pure [], gTF 21 (some 25) (.indexAddr 22 (t 23) (t 24)) .pure [], gTF 21 (some 26) (.load 29 (t 25)) .look [], gTF 21 (some 27) (.move (t 0)) .pure [], gTF 21 (some 28) (.move (t 9)) .pure [], gTF 21 (some 29) (.binOp .sub 3 (t 28) (ci 1) 3) .pure [], gTF 21 (some 30) (.indexAddr 22 (t 27) (t 29)) .pure [], gTF 21 (some 31) (.load 29 (t 30)) .look [], gTF 21 (some 32) (.call { callee := (.value (t 22)), args := #[(t 26), (t 31)], argTypes := #[29, 29] }) .make [8, 13], gTF 21 (some 33) (.binOp .lss 3 (t 32) (ci 0) 3) .pure [], uF 34 (.pick (t 21) (t 33) (.const (.bool false))) .pure []]
def r41_5 : List COp := [u 35 (.move (t 9)), u 36 (.binOp .sub 3 (t 35) (ci 1) 3), u 9 (.assign (t 36))]
def r41_6 : List COpF := [uF 37 (.move (t 0)) .pure [], uF 38 (.move (t 9)) .pure [], uF 39 (.move (t 0)) .pure [], uF 40 (.move (t 9)) .pure [], uF 41 (.binOp .sub 3 (t 40) (ci 1) 3) .pure [], uF 42 (.move (t 0)) .pure [], uF 43 (.move (t 9)) .pure [], uF 44 (.binOp .sub 3 (t 43) (ci 1) 3) .pure [], uF 45 (.indexAddr 22 (t 42) (t 44)) .pure [], uF 46 (.load 29 (t 45)) .look [], uF 47 (.move (t 0)) .pure [], uF 48 (.move (t 9)) .pure [], uF 49 (.indexAddr 22 (t 47) (t 48)) .pure [], uF 50 (.load 29 (t 49)) .look [], uF 51 (.indexAddr 22 (t 37) (t 38)) .pure [], oF (.store 29 (t 51) (t 46)) .make [9, 13], uF 52 (.indexAddr 22 (t 39) (t 41)) .pure [], oF (.store 29 (t 52) (t 50)) .make [9, 13]]
def slices_insertionSortCmpFunc_api_Edit_l1 (F : Nat) (a0 : List api_Edit) (a1 : Int) (a2 : Int) : Nat → (List api_Edit) → Int → Int → Option ((List api_Edit) × Int)
  | 0, _, _, _ => none
  | n + 1, x3845, x3848, x3849 =>
    if a1 < x3849 then
      if 0 ≤ x3849 ∧ x3849 < (x3845.length : Int) then
        (x3845[x3849.toNat]?).bind fun x3937 =>
        if 0 ≤ (w64 (x3849 - 1)) ∧ (w64 (x3849 - 1)) < (x3845.length : Int) then
          (x3845[(w64 (x3849 - 1)).toNat]?).bind fun x3947 =>
          (edit_Choose_2 F x3937 x3947).bind fun r3956 =>
          if r3956 < (0 : Int) then
            if 0 ≤ (w64 (x3849 - 1)) ∧ (w64 (x3849 - 1)) < (x3845.length : Int) then
              (x3845[(w64 (x3849 - 1)).toNat]?).bind fun x3973 =>
              if 0 ≤ x3849 ∧ x3849 < (x3845.length : Int) then
                (x3845[x3849.toNat]?).bind fun x3983 =>
                if 0 ≤ x3849 ∧ x3849 < (x3845.length : Int) then
                  (x3845[x3849.toNat]?).bind fun x3993 =>
                  if 0 ≤ (w64 (x3849 - 1)) ∧ (w64 (x3849 - 1)) < ((x3845.set x3849.toNat x3973).length : Int) then
                    ((x3845.set x3849.toNat x3973)[(w64 (x3849 - 1)).toNat]?).bind fun x4005 =>
                    slices_insertionSortCmpFunc_api_Edit_l1 F a0 a1 a2 n ((x3845.set x3849.toNat x3973).set (w64 (x3849 - 1)).toNat x3983) x3848 (w64 (x3849 - 1))
                  else none
                else none
              else none
            else none
          else
            some (x3845, x3848)
        else none
      else none
    else
      some (x3845, x3848)
def slices_insertionSortCmpFunc_api_Edit_l0 (F : Nat) (a0 : List api_Edit) (a1 : Int) (a2 : Int) : Nat → (List api_Edit) → Int → Option (List api_Edit)
  | 0, _, _ => none
  | n + 1, x3658, x3661 =>
    if x3661 < a2 then
      ((slices_insertionSortCmpFunc_api_Edit_l1 F a0 a1 a2 F x3658 x3661 x3661) : Option ((List api_Edit) × Int)).bind fun o => match o with
        | (x4024, x4027) => slices_insertionSortCmpFunc_api_Edit_l0 F a0 a1 a2 n x4024 (w64 (x4027 + 1))
    else
      some x3658
def slices_insertionSortCmpFunc_api_Edit (F : Nat) (a0 : List api_Edit) (a1 : Int) (a2 : Int) : Option (List api_Edit) :=
  ((slices_insertionSortCmpFunc_api_Edit_l0 F a0 a1 a2 F a0 (w64 (a1 + 1))) : Option (List api_Edit)).bind fun o => match o with
    | x4038 => some x4038
theorem slices_insertionSortCmpFunc_api_Edit_ok (F : Nat) {h : AH} {Z : Zn} {a0 : List api_Edit} {a1 : Int} {a2 : Int} {v2261 : Value} {c2262 : List Value} (hP : Pre Z h [.gs v2261 c2262 (csz api_Edit)]) (q2260 : RCs (α := api_Edit) Z c2262 a0) {r : (List api_Edit)} (hm : slices_insertionSortCmpFunc_api_Edit F a0 a1 a2 = some r) :
    ∃ v h' Z' A', callI Go.Proofs.Try.prog 41 [v2261, .int .i64 a1, .int .i64 a2, .func (.func 31) #[] #[]] h = some (v, h') ∧ St h (idsL [.gs v2261 c2262 (csz api_Edit)]) Z (0, 0) Z' h' A' ∧ ∃ c3109 : List Value, .tuple #[] = v ∧ A' = [.gs v2261 c3109 (csz api_Edit)] ∧ RCs (α := api_Edit) Z' c3109 r := by
  refine fn_intro (A := [.gs v2261 c2262 (csz api_Edit)]) (Q := fun v Z' A' => ∃ c3109 : List Value, .tuple #[] = v ∧ A' = [.gs v2261 c3109 (csz api_Edit)] ∧ RCs (α := api_Edit) Z' c3109 r) Go.Proofs.Try.func41 rfl rfl (by kernel_rfl) hP ?_
  intro hs hS
  unfold slices_insertionSortCmpFunc_api_Edit at hm
  refine sr r41_0 ?_
  refine xe 3 [(8, .int .i64 (w64 (a1 + 1))), (0, v2261), (1, .int .i64 a1), (2, .int .i64 a2), (3, .func (.func 31) #[] #[])] ?_
  obtain ⟨o3656, ho3655, hm⟩ := obind hm
  refine W_join [] (fun l h => ∃ Z4037 : Zn, ∃ x4038 : List api_Edit, ∃ c4040 : List Value, x4038 = o3656 ∧ RCs (α := api_Edit) Z4037 c4040 x4038 ∧ l = [] ∧ St hs (idsL [.gs v2261 c2262 (csz api_Edit)]) Z (0, 0) Z4037 h [.gs v2261 c4040 (csz api_Edit)]) ?_ ?_
  rintro l h4041 ⟨Z4037, x4038, c4040, rfl, q4039, rfl, hS4042⟩
  try dsimp only at hm
  obtain rfl := Option.some.inj hm
  refine ⟨_, _, _, ResL.nil, hS4042, ?_⟩
  exact ⟨c4040, rfl, rfl, q4039⟩
  refine bk 0 ?_
  refine lp [0, 1, 2, 3, 8] (fun n l h => ∃ Z3657 : Zn, ∃ x3658 : List api_Edit, ∃ x3661 : Int, ∃ c3660 : List Value, slices_insertionSortCmpFunc_api_Edit_l0 F a0 a1 a2 n x3658 x3661 = some o3656 ∧ RCs (α := api_Edit) Z3657 c3660 x3658 ∧ l = [(0, v2261), (1, .int .i64 a1), (2, .int .i64 a2), (3, .func (.func 31) #[] #[]), (8, .int .i64 x3661)] ∧ St hs (idsL [.gs v2261 c2262 (csz api_Edit)]) Z (0, 0) Z3657 h [.gs v2261 c3660 (csz api_Edit)]) F ⟨_, a0, w64 (a1 + 1), c2262, ho3655, q2260, rfl, hS⟩ ?_
  rintro n3664 l h3662 ⟨Z3657, x3658, x3661, c3660, ho3655, q3659, rfl, hS3663⟩
  rcases n3664 with _ | n3664
  cases (show none = some o3656 from ho3655)
  rw [slices_insertionSortCmpFunc_api_Edit_l0] at ho3655
  refine sq ?_
  refine sr r41_1 ?_
  refine xq 2 [(13, .int .i64 a2), (12, .int .i64 x3661), (0, v2261), (1, .int .i64 a1), (2, .int .i64 a2), (3, .func (.func 31) #[] #[]), (8, .int .i64 x3661)] ?_
  rcases ifs ho3655 with ⟨hp3667, ho3655⟩ | ⟨hp3667, ho3655⟩
  refine r_step rfl trivial (o_cmp rfl rfl (c_lss_T hp3667)) ?_
  refine xf [(14, .bool true), (0, v2261), (1, .int .i64 a1), (2, .int .i64 a2), (3, .func (.func 31) #[] #[]), (8, .int .i64 x3661)] ?_
  refine kT 14 rfl ?_
  refine sq ?_
  refine bk 1 ?_
  refine sr r41_3 ?_
  refine xe 2 [(9, .int .i64 x3661), (0, v2261), (1, .int .i64 a1), (2, .int .i64 a2), (3, .func (.func 31) #[] #[]), (8, .int .i64 x3661)] ?_
  obtain ⟨o3843, ho3842, ho3655⟩ := obind ho3655
  refine W_join [0, 1, 2, 3, 8] (fun l h => ∃ Z4023 : Zn, ∃ x4024 : List api_Edit, ∃ x4027 : Int, ∃ c4026 : List Value, (x4024, x4027) = o3843 ∧ RCs (α := api_Edit) Z4023 c4026 x4024 ∧ l = [(0, v2261), (1, .int .i64 a1), (2, .int .i64 a2), (3, .func (.func 31) #[] #[]), (8, .int .i64 x4027)] ∧ St hs (idsL [.gs v2261 c2262 (csz api_Edit)]) Z (0, 0) Z4023 h [.gs v2261 c4026 (csz api_Edit)]) ?_ ?_
  rintro l h4028 ⟨Z4023, x4024, x4027, c4026, rfl, q4025, rfl, hS4029⟩
  try dsimp only at ho3655
  refine rg r41_2 ?_
  refine xe 3 [(8, .int .i64 (w64 (x4027 + 1))), (0, v2261), (1, .int .i64 a1), (2, .int .i64 a2), (3, .func (.func 31) #[] #[])] ?_
  exact ⟨n3664, Nat.lt_succ_self _, ⟨_, x4024, w64 (x4027 + 1), c4026, ho3655, q4025, rfl, hS4029⟩⟩
  refine bk 2 ?_
  refine lp [0, 1, 2, 3, 8, 9] (fun n l h => ∃ Z3844 : Zn, ∃ x3845 : List api_Edit, ∃ x3848 : Int, ∃ x3849 : Int, ∃ c3847 : List Value, slices_insertionSortCmpFunc_api_Edit_l1 F a0 a1 a2 n x3845 x3848 x3849 = some o3843 ∧ RCs (α := api_Edit) Z3844 c3847 x3845 ∧ l = [(0, v2261), (1, .int .i64 a1), (2, .int .i64 a2), (3, .func (.func 31) #[] #[]), (8, .int .i64 x3848), (9, .int .i64 x3849)] ∧ St hs (idsL [.gs v2261 c2262 (csz api_Edit)]) Z (0, 0) Z3844 h [.gs v2261 c3847 (csz api_Edit)]) F ⟨_, x3658, x3661, x3661, c3660, ho3842, q3659, rfl, hS3663⟩ ?_
  rintro n3852 l h3850 ⟨Z3844, x3845, x3848, x3849, c3847, ho3842, q3846, rfl, hS3851⟩
  rcases n3852 with _ | n3852
  cases (show none = some o3843 from ho3842)
  rw [slices_insertionSortCmpFunc_api_Edit_l1] at ho3842
  refine sq ?_
  refine srF r41_4 hS3851 ?_
  intro bs3931 h3932 hlv3934 hS3933
  refine yq 2 [(19, .int .i64 a1), (18, .int .i64 x3849), (0, v2261), (1, .int .i64 a1), (2, .int .i64 a2), (3, .func (.func 31) #[] #[]), (8, .int .i64 x3848), (9, .int .i64 x3849)] ?_
  rcases ifs ho3842 with ⟨hp3935, ho3842⟩ | ⟨hp3935, ho3842⟩
  refine e_val rfl trivial (o_cmp rfl rfl (c_gtr_T hp3935)) ?_
  refine yq 4 [(24, .int .i64 x3849), (23, v2261), (22, .func (.func 31) #[] #[]), (21, .bool true), (0, v2261), (1, .int .i64 a1), (2, .int .i64 a2), (3, .func (.func 31) #[] #[]), (8, .int .i64 x3848), (9, .int .i64 x3849)] ?_
  obtain ⟨hc3936, ho3842⟩ := chk ho3842
  refine e_val rfl rfl (o_index rfl rfl (by kernel_rfl : slTy _ _ = some (csz api_Edit)) (hS3933.gbased (j := 0) rfl q3846 (by omega)) hc3936.1 hc3936.2) ?_
  obtain ⟨x3937, hx3938, ho3842⟩ := obind ho3842
  obtain ⟨cs3939, hc3940, he3941, ht3942⟩ := hS3933.gel (j := 0) rfl q3846 (i := x3849) hx3938
  obtain rfl := rc_api_Edit hc3940
  have ps3943 := pos_of hx3938
  have hB3944 := hS3933.gbased (j := 0) rfl q3846 ps3943
  have lt3945 : (baseOf v2261).block < bs3931 := row_ltM (hlv3934.1 _ (List.mem_of_getElem? (i := 0) rfl)) hB3944
  refine e_lookB rfl rfl rfl (by show (baseOf v2261).block < _; omega) (same_agg (cs := [.int .i64 x3937.From, .int .i64 x3937.To, .string ⟨⟨x3937.Put.b⟩⟩]) (.cons trivial (.cons trivial (.cons trivial .nil)))) (o_lde (w := .agg #[.int .i64 x3937.From, .int .i64 x3937.To, .string ⟨⟨x3937.Put.b⟩⟩]) he3941 rfl (by kernel_rfl)) trivial ?_
  refine yq 3 [(29, .int .i64 (w64 (x3849 - 1))), (27, v2261), (26, .agg #[.int .i64 x3937.From, .int .i64 x3937.To, .string ⟨⟨x3937.Put.b⟩⟩]), (22, .func (.func 31) #[] #[]), (21, .bool true), (0, v2261), (1, .int .i64 a1), (2, .int .i64 a2), (3, .func (.func 31) #[] #[]), (8, .int .i64 x3848), (9, .int .i64 x3849)] ?_
  obtain ⟨hc3946, ho3842⟩ := chk ho3842
  refine e_val rfl rfl (o_index rfl rfl (by kernel_rfl : slTy _ _ = some (csz api_Edit)) (hS3933.gbased (j := 0) rfl q3846 (by omega)) hc3946.1 hc3946.2) ?_
  obtain ⟨x3947, hx3948, ho3842⟩ := obind ho3842
  obtain ⟨cs3949, hc3950, he3951, ht3952⟩ := hS3933.gel (j := 0) rfl q3846 (i := w64 (x3849 - 1)) hx3948
  obtain rfl := rc_api_Edit hc3950
  have ps3953 := pos_of hx3948
  have hB3954 := hS3933.gbased (j := 0) rfl q3846 ps3953
  have lt3955 : (baseOf v2261).block < bs3931 := row_ltM (hlv3934.1 _ (List.mem_of_getElem? (i := 0) rfl)) hB3954
  refine e_lookB rfl rfl rfl (by show (baseOf v2261).block < _; omega) (same_agg (cs := [.int .i64 x3947.From, .int .i64 x3947.To, .string ⟨⟨x3947.Put.b⟩⟩]) (.cons trivial (.cons trivial (.cons trivial .nil)))) (o_lde (w := .agg #[.int .i64 x3947.From, .int .i64 x3947.To, .string ⟨⟨x3947.Put.b⟩⟩]) he3951 rfl (by kernel_rfl)) trivial ?_
  obtain ⟨r3956, hx3957, ho3842⟩ := obind ho3842
  have hSl3963 := hS3933.lown
  obtain ⟨v3958, h3959, hcl3960, hSc3961, rfl⟩ := edit_Choose_2_ok F hSl3963.inv  hx3957
  have hS3962 := St.call (A := []) (B := [.gs v2261 c3847 (csz api_Edit)]) hSl3963 hSc3961
  replace hS3962 : St _ _ _ _ _ _ [.gs v2261 c3847 (csz api_Edit)] := hS3962
  refine e_still rfl rfl hS3933 (o_call hcl3960 rfl rfl rfl) hS3962 (St.lowk hSc3961) ?_
  intro h3964 hS3965
  rcases ifs ho3842 with ⟨hp3966, ho3842⟩ | ⟨hp3966, ho3842⟩
  refine e_val rfl rfl (o_cmp rfl rfl (c_lss_T hp3966)) ?_
  refine ye 1 [(34, .bool true), (0, v2261), (1, .int .i64 a1), (2, .int .i64 a2), (3, .func (.func 31) #[] #[]), (8, .int .i64 x3848), (9, .int .i64 x3849)] ?_
  have hS3967 := hS3965.unres
  refine kT 34 rfl ?_
  refine sq ?_
  refine bk 3 ?_
  refine rgF r41_6 hS3967 ?_
  intro bs3968 h3969 hlv3971 hS3970
  refine yq 8 [(44, .int .i64 (w64 (x3849 - 1))), (42, v2261), (41, .int .i64 (w64 (x3849 - 1))), (39, v2261), (38, .int .i64 x3849), (37, v2261), (0, v2261), (1, .int .i64 a1), (2, .int .i64 a2), (3, .func (.func 31) #[] #[]), (8, .int .i64 x3848), (9, .int .i64 x3849)] ?_
  obtain ⟨hc3972, ho3842⟩ := chk ho3842
  refine e_val rfl trivial (o_index rfl rfl (by kernel_rfl : slTy _ _ = some (csz api_Edit)) (hS3970.gbased (j := 0) rfl q3846 (by omega)) hc3972.1 hc3972.2) ?_
  obtain ⟨x3973, hx3974, ho3842⟩ := obind ho3842
  obtain ⟨cs3975, hc3976, he3977, ht3978⟩ := hS3970.gel (j := 0) rfl q3846 (i := w64 (x3849 - 1)) hx3974
  obtain rfl := rc_api_Edit hc3976
  have ps3979 := pos_of hx3974
  have hB3980 := hS3970.gbased (j := 0) rfl q3846 ps3979
  have lt3981 : (baseOf v2261).block < bs3968 := row_ltM (hlv3971.1 _ (List.mem_of_getElem? (i := 0) rfl)) hB3980
  refine e_lookB rfl trivial rfl (by show (baseOf v2261).block < _; omega) (same_agg (cs := [.int .i64 x3973.From, .int .i64 x3973.To, .string ⟨⟨x3973.Put.b⟩⟩]) (.cons trivial (.cons trivial (.cons trivial .nil)))) (o_lde (w := .agg #[.int .i64 x3973.From, .int .i64 x3973.To, .string ⟨⟨x3973.Put.b⟩⟩]) he3977 rfl (by kernel_rfl)) trivial ?_
  refine yq 2 [(48, .int .i64 x3849), (47, v2261), (46, .agg #[.int .i64 x3973.From, .int .i64 x3973.To, .string ⟨⟨x3973.Put.b⟩⟩]), (41, .int .i64 (w64 (x3849 - 1))), (39, v2261), (38, .int .i64 x3849), (37, v2261), (0, v2261), (1, .int .i64 a1), (2, .int .i64 a2), (3, .func (.func 31) #[] #[]), (8, .int .i64 x3848), (9, .int .i64 x3849)] ?_
  obtain ⟨hc3982, ho3842⟩ := chk ho3842
  refine e_val rfl trivial (o_index rfl rfl (by kernel_rfl : slTy _ _ = some (csz api_Edit)) (hS3970.gbased (j := 0) rfl q3846 (by omega)) hc3982.1 hc3982.2) ?_
  obtain ⟨x3983, hx3984, ho3842⟩ := obind ho3842
  obtain ⟨cs3985, hc3986, he3987, ht3988⟩ := hS3970.gel (j := 0) rfl q3846 (i := x3849) hx3984
  obtain rfl := rc_api_Edit hc3986
  have ps3989 := pos_of hx3984
  have hB3990 := hS3970.gbased (j := 0) rfl q3846 ps3989
  have lt3991 : (baseOf v2261).block < bs3968 := row_ltM (hlv3971.1 _ (List.mem_of_getElem? (i := 0) rfl)) hB3990
  refine e_lookB rfl trivial rfl (by show (baseOf v2261).block < _; omega) (same_agg (cs := [.int .i64 x3983.From, .int .i64 x3983.To, .string ⟨⟨x3983.Put.b⟩⟩]) (.cons trivial (.cons trivial (.cons trivial .nil)))) (o_lde (w := .agg #[.int .i64 x3983.From, .int .i64 x3983.To, .string ⟨⟨x3983.Put.b⟩⟩]) he3987 rfl (by kernel_rfl)) trivial ?_
  obtain ⟨hc3992, ho3842⟩ := chk ho3842
  refine e_val rfl trivial (o_index rfl rfl (by kernel_rfl : slTy _ _ = some (csz api_Edit)) (hS3970.gbased (j := 0) rfl q3846 (by omega)) hc3992.1 hc3992.2) ?_
  obtain ⟨x3993, hx3994, ho3842⟩ := obind ho3842
  obtain ⟨cs3995, hc3996, he3997, ht3998⟩ := hS3970.gel (j := 0) rfl q3846 (i := x3849) hx3994
  obtain rfl := rc_api_Edit hc3996
  have hF4003 : St _ _ _ _ _ _ ([.gs v2261 c3847 (csz api_Edit)] ++ []) := (hS3970.front 0 rfl)
  refine e_mk2 rfl trivial hF4003 (o_ste (u' := x3973) (vs := [.int .i64 x3973.From, .int .i64 x3973.To, .string ⟨⟨x3973.Put.b⟩⟩]) (cs' := [.int .i64 x3973.From, .int .i64 x3973.To, .string ⟨⟨x3973.Put.b⟩⟩]) hF4003.sub (m := 0) rfl q3846 hx3994 ht3998 rfl rfl rfl (by kernel_rfl) rfl rfl rfl rfl) (Zle.refl _) (.drop (by decide) (.drop (by decide) .nil)) ?_
  rintro h3999 c4000 ⟨q4002, hS4001⟩
  replace hS4001 : St _ _ _ _ _ _ [.gs v2261 c4000 (csz api_Edit)] := hS4001
  obtain ⟨hc4004, ho3842⟩ := chk ho3842
  refine e_val rfl trivial (o_index rfl rfl (by kernel_rfl : slTy _ _ = some (csz api_Edit)) (hS4001.gbased (j := 0) rfl q4002 (by omega)) hc4004.1 hc4004.2) ?_
  obtain ⟨x4005, hx4006, ho3842⟩ := obind ho3842
  obtain ⟨cs4007, hc4008, he4009, ht4010⟩ := hS4001.gel (j := 0) rfl q4002 (i := w64 (x3849 - 1)) hx4006
  obtain rfl := rc_api_Edit hc4008
  have hF4015 : St _ _ _ _ _ _ ([.gs v2261 c4000 (csz api_Edit)] ++ []) := (hS4001.front 0 rfl)
  refine e_mk2 rfl trivial hF4015 (o_ste (u' := x3983) (vs := [.int .i64 x3983.From, .int .i64 x3983.To, .string ⟨⟨x3983.Put.b⟩⟩]) (cs' := [.int .i64 x3983.From, .int .i64 x3983.To, .string ⟨⟨x3983.Put.b⟩⟩]) hF4015.sub (m := 0) rfl q4002 hx4006 ht4010 rfl rfl rfl (by kernel_rfl) rfl rfl rfl rfl) (Zle.refl _) (.drop (by decide) (.drop (by decide) .nil)) ?_
  rintro h4011 c4012 ⟨q4014, hS4013⟩
  replace hS4013 : St _ _ _ _ _ _ [.gs v2261 c4012 (csz api_Edit)] := hS4013
  refine yf [(0, v2261), (1, .int .i64 a1), (2, .int .i64 a2), (3, .func (.func 31) #[] #[]), (8, .int .i64 x3848), (9, .int .i64 x3849)] ?_
  have hS4016 := hS4013.unres
  refine rg r41_5 ?_
  refine xe 3 [(9, .int .i64 (w64 (x3849 - 1))), (0, v2261), (1, .int .i64 a1), (2, .int .i64 a2), (3, .func (.func 31) #[] #[]), (8, .int .i64 x3848)] ?_
  exact ⟨n3852, Nat.lt_succ_self _, ⟨_, (x3845.set x3849.toNat x3973).set (w64 (x3849 - 1)).toNat x3983, x3848, w64 (x3849 - 1), c4012, ho3842, q4014, rfl, hS4016⟩⟩
  refine e_val rfl rfl (o_cmp rfl rfl (c_lss_F hp3966)) ?_
  refine ye 1 [(34, .bool false), (0, v2261), (1, .int .i64 a1), (2, .int .i64 a2), (3, .func (.func 31) #[] #[]), (8, .int .i64 x3848), (9, .int .i64 x3849)] ?_
  have hS4017 := hS3965.unres
  refine cF 34 rfl ?_
  refine xt 2 ?_
  refine blkX_hit ?_
  obtain rfl := Option.some.inj ho3842
  exact ⟨_, x3845, x3848, c3847, rfl, q3846, rfl, hS4017⟩
  refine e_val rfl trivial (o_cmp rfl rfl (c_gtr_F hp3935)) ?_
  refine ye 14 [(34, .bool false), (0, v2261), (1, .int .i64 a1), (2, .int .i64 a2), (3, .func (.func 31) #[] #[]), (8, .int .i64 x3848), (9, .int .i64 x3849)] ?_
  have hS4018 := hS3933.unres
  refine cF 34 rfl ?_
  refine xt 2 ?_
  refine blkX_hit ?_
  obtain rfl := Option.some.inj ho3842
  exact ⟨_, x3845, x3848, c3847, rfl, q3846, rfl, hS4018⟩
  refine r_step rfl trivial (o_cmp rfl rfl (c_lss_F hp3667)) ?_
  refine xf [(14, .bool false), (0, v2261), (1, .int .i64 a1), (2, .int .i64 a2), (3, .func (.func 31) #[] #[]), (8, .int .i64 x3661)] ?_
  refine cF 14 rfl ?_
  refine xt 0 ?_
  refine blkX_hit ?_
  obtain rfl := Option.some.inj ho3655
  exact ⟨_, x3658, c3660, rfl, q3659, rfl, hS3663⟩

def r45_0 : List COp := [u 10 (.assign (ci 0))]
def r45_1 : List COp := [u 11 (.move (t 10)), u 12 (.move (t 3)), u 13 (.binOp .lss 3 (t 11) (t 12) 3)]
def r45_2 : List COp := [u 14 (.move (t 10)), u 15 (.binOp .add 3 (t 14) (ci 1) 3), u 10 (.assign (t 15))]
def r45_3 : List COpF := [uF 16 (.move (t 0)) .pure [], uF 17 (.move (t 1)) .pure [], uF 18 (.move (t 10)) .pure [], uF 19 (.binOp .add 3 (t 17) (t 18) 3) .pure [], uF 20 (.move (t 0)) .pure [], uF 21 (.move (t 2)) .pure [], uF 22 (.move (t 10)) .pure [], uF 23 (.binOp .add 3 (t 21) (t 22) 3) .pure [], uF 24 (.move (t 0)) .pure [], uF 25 (.move (t 2)) .pure [], uF 26 (.move (t 10)) .pure [], uF 27 (.binOp .add 3 (t 25) (t 26) 3) .pure [], uF 28 (.indexAddr 22 (t 24) (t 27)) .pure [], uF 29 (.load 29 (t 28)) .look [], uF 30 (.move (t 0)) .pure [], uF 31 (.move (t 1)) .pure [], uF 32 (.move (t 10)) .pure [], uF 33 (.binOp .add 3 (t 31) (t 32) 3) .pure [], uF 34 (.indexAddr 22 (t 30) (t 33)) .pure [], uF 35 (.load 29 (t 34)) .look [], uF 36 (.indexAddr 22 (t 16) (t 19)) .pure [], oF (.store 29 (t 36) (t 29)) .make [13, 19], uF 37 (.indexAddr 22 (t 20) (t 23)) .pure [], oF (.store 29 (t 37) (t 35)) .make [13, 19]]
def slices_swapRangeCmpFunc_api_Edit_l0 (F : Nat) (a0 : List api_Edit) (a1 : Int) (a2 : Int) (a3 : Int) : Nat → (List api_Edit) → Int → Option (List api_Edit)
  | 0, _, _ => none
  | n + 1, x6161, x6164 =>
    if x6164 < a3 then
      if 0 ≤ (w64 (a2 + x6164)) ∧ (w64 (a2 + x6164)) < (x6161.length : Int) then
        (x6161[(w64 (a2 + x6164)).toNat]?).bind fun x6176 =>
        if 0 ≤ (w64 (a1 + x6164)) ∧ (w64 (a1 + x6164)) < (x6161.length : Int) then
          (x6161[(w64 (a1 + x6164)).toNat]?).bind fun x6186 =>
          if 0 ≤ (w64 (a1 + x6164)) ∧ (w64 (a1 + x6164)) < (x6161.length : Int) then
            (x6161[(w64 (a1 + x6164)).toNat]?).bind fun x6196 =>
            if 0 ≤ (w64 (a2 + x6164)) ∧ (w64 (a2 + x6164)) < ((x6161.set (w64 (a1 + x6164)).toNat x6176).length : Int) then
              ((x6161.set (w64 (a1 + x6164)).toNat x6176)[(w64 (a2 + x6164)).toNat]?).bind fun x6208 =>
              slices_swapRangeCmpFunc_api_Edit_l0 F a0 a1 a2 a3 n ((x6161.set (w64 (a1 + x6164)).toNat x6176).set (w64 (a2 + x6164)).toNat x6186) (w64 (x6164 + 1))
            else none
          else none
        else none
      else none
    else
      some x6161
def slices_swapRangeCmpFunc_api_Edit (F : Nat) (a0 : List api_Edit) (a1 : Int) (a2 : Int) (a3 : Int) : Option (List api_Edit) :=
  ((slices_swapRangeCmpFunc_api_Edit_l0 F a0 a1 a2 a3 F a0 0) : Option (List api_Edit)).bind fun o => match o with
    | x6224 => some x6224
theorem slices_swapRangeCmpFunc_api_Edit_ok (F : Nat) {h : AH} {Z : Zn} {a0 : List api_Edit} {a1 : Int} {a2 : Int} {a3 : Int} {v5920 : Value} {c5921 : List Value} (hP : Pre Z h [.gs v5920 c5921 (csz api_Edit)]) (q5919 : RCs (α := api_Edit) Z c5921 a0) {r : (List api_Edit)} (hm : slices_swapRangeCmpFunc_api_Edit F a0 a1 a2 a3 = some r) :
    ∃ v h' Z' A', callI Go.Proofs.Try.prog 45 [v5920, .int .i64 a1, .int .i64 a2, .int .i64 a3, .func (.func 31) #[] #[]] h = some (v, h') ∧ St h (idsL [.gs v5920 c5921 (csz api_Edit)]) Z (0, 0) Z' h' A' ∧ ∃ c6043 : List Value, .tuple #[] = v ∧ A' = [.gs v5920 c6043 (csz api_Edit)] ∧ RCs (α := api_Edit) Z' c6043 r := by
  refine fn_intro (A := [.gs v5920 c5921 (csz api_Edit)]) (Q := fun v Z' A' => ∃ c6043 : List Value, .tuple #[] = v ∧ A' = [.gs v5920 c6043 (csz api_Edit)] ∧ RCs (α := api_Edit) Z' c6043 r) Go.Proofs.Try.func45 rfl rfl (by kernel_rfl) hP ?_
  intro hs hS
  unfold slices_swapRangeCmpFunc_api_Edit at hm
  refine sr r45_0 ?_
  refine xe 1 [(10, .int .i64 0), (0, v5920), (1, .int .i64 a1), (2, .int .i64 a2), (3, .int .i64 a3)] ?_
  obtain ⟨o6159, ho6158, hm⟩ := obind hm
  refine W_join [] (fun l h => ∃ Z6223 : Zn, ∃ x6224 : List api_Edit, ∃ c6226 : List Value, x6224 = o6159 ∧ RCs (α := api_Edit) Z6223 c6226 x6224 ∧ l = [] ∧ St hs (idsL [.gs v5920 c5921 (csz api_Edit)]) Z (0, 0) Z6223 h [.gs v5920 c6226 (csz api_Edit)]) ?_ ?_
  rintro l h6227 ⟨Z6223, x6224, c6226, rfl, q6225, rfl, hS6228⟩
  try dsimp only at hm
  obtain rfl := Option.some.inj hm
  refine ⟨_, _, _, ResL.nil, hS6228, ?_⟩
  exact ⟨c6226, rfl, rfl, q6225⟩
  refine bk 0 ?_
  refine lp [0, 1, 2, 3, 10] (fun n l h => ∃ Z6160 : Zn, ∃ x6161 : List api_Edit, ∃ x6164 : Int, ∃ c6163 : List Value, slices_swapRangeCmpFunc_api_Edit_l0 F a0 a1 a2 a3 n x6161 x6164 = some o6159 ∧ RCs (α := api_Edit) Z6160 c6163 x6161 ∧ l = [(0, v5920), (1, .int .i64 a1), (2, .int .i64 a2), (3, .int .i64 a3), (10, .int .i64 x6164)] ∧ St hs (idsL [.gs v5920 c5921 (csz api_Edit)]) Z (0, 0) Z6160 h [.gs v5920 c6163 (csz api_Edit)]) F ⟨_, a0, 0, c5921, ho6158, q5919, rfl, hS⟩ ?_
  rintro n6167 l h6165 ⟨Z6160, x6161, x6164, c6163, ho6158, q6162, rfl, hS6166⟩
  rcases n6167 with _ | n6167
  cases (show none = some o6159 from ho6158)
  rw [slices_swapRangeCmpFunc_api_Edit_l0] at ho6158
  refine sq ?_
  refine sr r45_1 ?_
  refine xq 2 [(12, .int .i64 a3), (11, .int .i64 x6164), (0, v5920), (1, .int .i64 a1), (2, .int .i64 a2), (3, .int .i64 a3), (10, .int .i64 x6164)] ?_
  rcases ifs ho6158 with ⟨hp6170, ho6158⟩ | ⟨hp6170, ho6158⟩
  refine r_step rfl trivial (o_cmp rfl rfl (c_lss_T hp6170)) ?_
  refine xf [(13, .bool true), (0, v5920), (1, .int .i64 a1), (2, .int .i64 a2), (3, .int .i64 a3), (10, .int .i64 x6164)] ?_
  refine kT 13 rfl ?_
  refine sq ?_
  refine bk 1 ?_
  refine rgF r45_3 hS6166 ?_
  intro bs6171 h6172 hlv6174 hS6173
  refine yq 12 [(27, .int .i64 (w64 (a2 + x6164))), (24, v5920), (23, .int .i64 (w64 (a2 + x6164))), (20, v5920), (19, .int .i64 (w64 (a1 + x6164))), (16, v5920), (0, v5920), (1, .int .i64 a1), (2, .int .i64 a2), (3, .int .i64 a3), (10, .int .i64 x6164)] ?_
  obtain ⟨hc6175, ho6158⟩ := chk ho6158
  refine e_val rfl trivial (o_index rfl rfl (by kernel_rfl : slTy _ _ = some (csz api_Edit)) (hS6173.gbased (j := 0) rfl q6162 (by omega)) hc6175.1 hc6175.2) ?_
  obtain ⟨x6176, hx6177, ho6158⟩ := obind ho6158
  obtain ⟨cs6178, hc6179, he6180, ht6181⟩ := hS6173.gel (j := 0) rfl q6162 (i := w64 (a2 + x6164)) hx6177
  obtain rfl := rc_api_Edit hc6179
  have ps6182 := pos_of hx6177
  have hB6183 := hS6173.gbased (j := 0) rfl q6162 ps6182
  have lt6184 : (baseOf v5920).block < bs6171 := row_ltM (hlv6174.1 _ (List.mem_of_getElem? (i := 0) rfl)) hB6183
  refine e_lookB rfl trivial rfl (by show (baseOf v5920).block < _; omega) (same_agg (cs := [.int .i64 x6176.From, .int .i64 x6176.To, .string ⟨⟨x6176.Put.b⟩⟩]) (.cons trivial (.cons trivial (.cons trivial .nil)))) (o_lde (w := .agg #[.int .i64 x6176.From, .int .i64 x6176.To, .string ⟨⟨x6176.Put.b⟩⟩]) he6180 rfl (by kernel_rfl)) trivial ?_
  refine yq 4 [(33, .int .i64 (w64 (a1 + x6164))), (30, v5920), (29, .agg #[.int .i64 x6176.From, .int .i64 x6176.To, .string ⟨⟨x6176.Put.b⟩⟩]), (23, .int .i64 (w64 (a2 + x6164))), (20, v5920), (19, .int .i64 (w64 (a1 + x6164))), (16, v5920), (0, v5920), (1, .int .i64 a1), (2, .int .i64 a2), (3, .int .i64 a3), (10, .int .i64 x6164)] ?_
  obtain ⟨hc6185, ho6158⟩ := chk ho6158
  refine e_val rfl trivial (o_index rfl rfl (by kernel_rfl : slTy _ _ = some (csz api_Edit)) (hS6173.gbased (j := 0) rfl q6162 (by omega)) hc6185.1 hc6185.2) ?_
  obtain ⟨x6186, hx6187, ho6158⟩ := obind ho6158
  obtain ⟨cs6188, hc6189, he6190, ht6191⟩ := hS6173.gel (j := 0) rfl q6162 (i := w64 (a1 + x6164)) hx6187
  obtain rfl := rc_api_Edit hc6189
  have ps6192 := pos_of hx6187
  have hB6193 := hS6173.gbased (j := 0) rfl q6162 ps6192
  have lt6194 : (baseOf v5920).block < bs6171 := row_ltM (hlv6174.1 _ (List.mem_of_getElem? (i := 0) rfl)) hB6193
  refine e_lookB rfl trivial rfl (by show (baseOf v5920).block < _; omega) (same_agg (cs := [.int .i64 x6186.From, .int .i64 x6186.To, .string ⟨⟨x6186.Put.b⟩⟩]) (.cons trivial (.cons trivial (.cons trivial .nil)))) (o_lde (w := .agg #[.int .i64 x6186.From, .int .i64 x6186.To, .string ⟨⟨x6186.Put.b⟩⟩]) he6190 rfl (by kernel_rfl)) trivial ?_
  obtain ⟨hc6195, ho6158⟩ := chk ho6158
  refine e_val rfl trivial (o_index rfl rfl (by kernel_rfl : slTy _ _ = some (csz api_Edit)) (hS6173.gbased (j := 0) rfl q6162 (by omega)) hc6195.1 hc6195.2) ?_
  obtain ⟨x6196, hx6197, ho6158⟩ := obind ho6158
  obtain ⟨cs6198, hc6199, he6200, ht6201⟩ := hS6173.gel (j := 0) rfl q6162 (i := w64 (a1 + x6164)) hx6197
  obtain rfl := rc_api_Edit hc6199
  have hF6206 : St _ _ _ _ _ _ ([.gs v5920 c6163 (csz api_Edit)] ++ []) := (hS6173.front 0 rfl)
  refine e_mk2 rfl trivial hF6206 (o_ste (u' := x6176) (vs := [.int .i64 x6176.From, .int .i64 x6176.To, .string ⟨⟨x6176.Put.b⟩⟩]) (cs' := [.int .i64 x6176.From, .int .i64 x6176.To, .string ⟨⟨x6176.Put.b⟩⟩]) hF6206.sub (m := 0) rfl q6162 hx6197 ht6201 rfl rfl rfl (by kernel_rfl) rfl rfl rfl rfl) (Zle.refl _) (.drop (by decide) (.drop (by decide) .nil)) ?_
  rintro h6202 c6203 ⟨q6205, hS6204⟩
  replace hS6204 : St _ _ _ _ _ _ [.gs v5920 c6203 (csz api_Edit)] := hS6204
  obtain ⟨hc6207, ho6158⟩ := chk ho6158
  refine e_val rfl trivial (o_index rfl rfl (by kernel_rfl : slTy _ _ = some (csz api_Edit)) (hS6204.gbased (j := 0) rfl q6205 (by omega)) hc6207.1 hc6207.2) ?_
  obtain ⟨x6208, hx6209, ho6158⟩ := obind ho6158
  obtain ⟨cs6210, hc6211, he6212, ht6213⟩ := hS6204.gel (j := 0) rfl q6205 (i := w64 (a2 + x6164)) hx6209
  obtain rfl := rc_api_Edit hc6211
  have hF6218 : St _ _ _ _ _ _ ([.gs v5920 c6203 (csz api_Edit)] ++ []) := (hS6204.front 0 rfl)
  refine e_mk2 rfl trivial hF6218 (o_ste (u' := x6186) (vs := [.int .i64 x6186.From, .int .i64 x6186.To, .string ⟨⟨x6186.Put.b⟩⟩]) (cs' := [.int .i64 x6186.From, .int .i64 x6186.To, .string ⟨⟨x6186.Put.b⟩⟩]) hF6218.sub (m := 0) rfl q6205 hx6209 ht6213 rfl rfl rfl (by kernel_rfl) rfl rfl rfl rfl) (Zle.refl _) (.drop (by decide) (.drop (by decide) .nil)) ?_
  rintro h6214 c6215 ⟨q6217, hS6216⟩
  replace hS6216 : St _ _ _ _ _ _ [.gs v5920 c6215 (csz api_Edit)] := hS6216
  refine yf [(0, v5920), (1, .int .i64 a1), (2, .int .i64 a2), (3, .int .i64 a3), (10, .int .i64 x6164)] ?_
  have hS6219 := hS6216.unres
  refine rg r45_2 ?_
  refine xe 3 [(10, .int .i64 (w64 (x6164 + 1))), (0, v5920), (1, .int .i64 a1), (2, .int .i64 a2), (3, .int .i64 a3)] ?_
  exact ⟨n6167, Nat.lt_succ_self _, ⟨_, (x6161.set (w64 (a1 + x6164)).toNat x6176).set (w64 (a2 + x6164)).toNat x6186, w64 (x6164 + 1), c6215, ho6158, q6217, rfl, hS6219⟩⟩
  refine r_step rfl trivial (o_cmp rfl rfl (c_lss_F hp6170)) ?_
  refine xf [(13, .bool false), (0, v5920), (1, .int .i64 a1), (2, .int .i64 a2), (3, .int .i64 a3), (10, .int .i64 x6164)] ?_
  refine cF 13 rfl ?_
  refine xt 0 ?_
  refine blkX_hit ?_
  obtain rfl := Option.some.inj ho6158
  exact ⟨_, x6161, c6163, rfl, q6162, rfl, hS6166⟩

def r44_0 : List COp := [u 12 (.move (t 2)), u 13 (.move (t 1)), u 14 (.binOp .sub 3 (t 12) (t 13) 3), u 10 (.assign (t 14))]
def r44_1 : List COp := [u 15 (.move (t 3)), u 16 (.move (t 2)), u 17 (.binOp .sub 3 (t 15) (t 16) 3), u 11 (.assign (t 17))]
def r44_2 : List COp := [u 18 (.move (t 10)), u 19 (.move (t 11)), u 20 (.binOp .neq 3 (t 18) (t 19) 3)]
def r44_3 : List COp := [u 21 (.move (t 10)), u 22 (.move (t 11)), u 23 (.binOp .gtr 3 (t 21) (t 22) 3)]
def r44_4 : List COp := [u 24 (.move (t 0)), u 25 (.move (t 2)), u 26 (.move (t 10)), u 27 (.binOp .sub 3 (t 25) (t 26) 3), u 28 (.move (t 2)), u 29 (.move (t 11)), u 30 (.move (t 4)), u 31 (cf 45 #[(t 24), (t 27), (t 28), (t 29), (t 30)] #[22, 3, 3, 3, 54])]
def r44_5 : List COp := [u 32 (.move (t 10)), u 33 (.move (t 11)), u 34 (.binOp .sub 3 (t 32) (t 33) 3), u 10 (.assign (t 34))]
def r44_6 : List COp := [u 35 (.move (t 0)), u 36 (.move (t 2)), u 37 (.move (t 10)), u 38 (.binOp .sub 3 (t 36) (t 37) 3), u 39 (.move (t 2)), u 40 (.move (t 11)), u 41 (.binOp .add 3 (t 39) (t 40) 3), u 42 (.move (t 10)), u 43 (.binOp .sub 3 (t 41) (t 42) 3), u 44 (.move (t 10)), u 45 (.move (t 4)), u 46 (cf 45 #[(t 35), (t 38), (t 43), (t 44), (t 45)] #[22, 3, 3, 3, 54])]
def r44_7 : List COp := [u 47 (.move (t 11)), u 48 (.move (t 10)), u 49 (.binOp .sub 3 (t 47) (t 48) 3), u 11 (.assign (t 49))]
def r44_8 : List COp := [u 50 (.move (t 0)), u 51 (.move (t 2)), u 52 (.move (t 10)), u 53 (.binOp .sub 3 (t 51) (t 52) 3), u 54 (.move (t 2)), u 55 (.move (t 10)), u 56 (.move (t 4)), u 57 (cf 45 #[(t 50), (t 53), (t 54), (t 55), (t 56)] #[22, 3, 3, 3, 54])]
def slices_rotateCmpFunc_api_Edit_l0 (F : Nat) (a0 : List api_Edit) (a1 : Int) (a2 : Int) (a3 : Int) : Nat → (List api_Edit) → Int → Int → Option ((List api_Edit) × Int)
  | 0, _, _, _ => none
  | n + 1, x6395, x6398, x6399 =>
    if x6398 = x6399 then
      some (x6395, x6398)
    else
      if x6399 < x6398 then
        (slices_swapRangeCmpFunc_api_Edit F x6395 (w64 (a2 - x6398)) a2 x6399).bind fun r6408 =>
        slices_rotateCmpFunc_api_Edit_l0 F a0 a1 a2 a3 n r6408 (w64 (x6398 - x6399)) x6399
      else
        (slices_swapRangeCmpFunc_api_Edit F x6395 (w64 (a2 - x6398)) (w64 ((w64 (a2 + x6399)) - x6398)) x6398).bind fun r6421 =>
        slices_rotateCmpFunc_api_Edit_l0 F a0 a1 a2 a3 n r6421 x6398 (w64 (x6399 - x6398))
def slices_rotateCmpFunc_api_Edit (F : Nat) (a0 : List api_Edit) (a1 : Int) (a2 : Int) (a3 : Int) : Option (List api_Edit) :=
  ((slices_rotateCmpFunc_api_Edit_l0 F a0 a1 a2 a3 F a0 (w64 (a2 - a1)) (w64 (a3 - a2))) : Option ((List api_Edit) × Int)).bind fun o => match o with
    | (x6439, x6442) => (slices_swapRangeCmpFunc_api_Edit F x6439 (w64 (a2 - x6442)) a2 x6442).bind fun r6445 =>
    some r6445
theorem slices_rotateCmpFunc_api_Edit_ok (F : Nat) {h : AH} {Z : Zn} {a0 : List api_Edit} {a1 : Int} {a2 : Int} {a3 : Int} {v5909 : Value} {c5910 : List Value} (hP : Pre Z h [.gs v5909 c5910 (csz api_Edit)]) (q5908 : RCs (α := api_Edit) Z c5910 a0) {r : (List api_Edit)} (hm : slices_rotateCmpFunc_api_Edit F a0 a1 a2 a3 = some r) :
    ∃ v h' Z' A', callI Go.Proofs.Try.prog 44 [v5909, .int .i64 a1, .int .i64 a2, .int .i64 a3, .func (.func 31) #[] #[]] h = some (v, h') ∧ St h (idsL [.gs v5909 c5910 (csz api_Edit)]) Z (0, 0) Z' h' A' ∧ ∃ c6318 : List Value, .tuple #[] = v ∧ A' = [.gs v5909 c6318 (csz api_Edit)] ∧ RCs (α := api_Edit) Z' c6318 r := by
  refine fn_intro (A := [.gs v5909 c5910 (csz api_Edit)]) (Q := fun v Z' A' => ∃ c6318 : List Value, .tuple #[] = v ∧ A' = [.gs v5909 c6318 (csz api_Edit)] ∧ RCs (α := api_Edit) Z' c6318 r) Go.Proofs.Try.func44 rfl rfl (by kernel_rfl) hP ?_
  intro hs hS
  unfold slices_rotateCmpFunc_api_Edit at hm
  refine sr r44_0 ?_
  refine xe 4 [(10, .int .i64 (w64 (a2 - a1))), (0, v5909), (2, .int .i64 a2), (3, .int .i64 a3), (4, .func (.func 31) #[] #[])] ?_
  refine sr r44_1 ?_
  refine xe 4 [(11, .int .i64 (w64 (a3 - a2))), (10, .int .i64 (w64 (a2 - a1))), (0, v5909), (2, .int .i64 a2), (4, .func (.func 31) #[] #[])] ?_
  refine sq ?_
  obtain ⟨o6393, ho6392, hm⟩ := obind hm
  refine W_join [0, 2, 4, 10] (fun l h => ∃ Z6438 : Zn, ∃ x6439 : List api_Edit, ∃ x6442 : Int, ∃ c6441 : List Value, (x6439, x6442) = o6393 ∧ RCs (α := api_Edit) Z6438 c6441 x6439 ∧ l = [(0, v5909), (2, .int .i64 a2), (4, .func (.func 31) #[] #[]), (10, .int .i64 x6442)] ∧ St hs (idsL [.gs v5909 c5910 (csz api_Edit)]) Z (0, 0) Z6438 h [.gs v5909 c6441 (csz api_Edit)]) ?_ ?_
  rintro l h6443 ⟨Z6438, x6439, x6442, c6441, rfl, q6440, rfl, hS6444⟩
  try dsimp only at hm
  refine rg r44_8 ?_
  refine xq 7 [(56, .func (.func 31) #[] #[]), (55, .int .i64 x6442), (54, .int .i64 a2), (53, .int .i64 (w64 (a2 - x6442))), (50, v5909)] ?_
  obtain ⟨r6445, hx6446, hm⟩ := obind hm
  have hF6452 : St _ _ _ _ _ _ ([.gs v5909 c6441 (csz api_Edit)] ++ []) := (hS6444.front 0 rfl)
  obtain ⟨v6447, h6448, Z6453, A6455, hcl6449, hSc6450, c6457, rfl, rfl, q6456⟩ := slices_swapRangeCmpFunc_api_Edit_ok F hF6452.preL q6440 hx6446
  have hZ6454 := hSc6450.zle
  have hS6451 := hF6452.call hSc6450
  replace hS6451 : St _ _ _ _ _ _ [.gs v5909 c6457 (csz api_Edit)] := hS6451
  refine r_step rfl trivial (o_call hcl6449 rfl rfl rfl) ?_
  refine xf [] ?_
  obtain rfl := Option.some.inj hm
  refine ⟨_, _, _, ResL.nil, hS6451, ?_⟩
  exact ⟨c6457, rfl, rfl, q6456⟩
  refine bk 0 ?_
  refine lp [0, 2, 4, 10, 11] (fun n l h => ∃ Z6394 : Zn, ∃ x6395 : List api_Edit, ∃ x6398 : Int, ∃ x6399 : Int, ∃ c6397 : List Value, slices_rotateCmpFunc_api_Edit_l0 F a0 a1 a2 a3 n x6395 x6398 x6399 = some o6393 ∧ RCs (α := api_Edit) Z6394 c6397 x6395 ∧ l = [(0, v5909), (2, .int .i64 a2), (4, .func (.func 31) #[] #[]), (10, .int .i64 x6398), (11, .int .i64 x6399)] ∧ St hs (idsL [.gs v5909 c5910 (csz api_Edit)]) Z (0, 0) Z6394 h [.gs v5909 c6397 (csz api_Edit)]) F ⟨_, a0, w64 (a2 - a1), w64 (a3 - a2), c5910, ho6392, q5908, rfl, hS⟩ ?_
  rintro n6402 l h6400 ⟨Z6394, x6395, x6398, x6399, c6397, ho6392, q6396, rfl, hS6401⟩
  rcases n6402 with _ | n6402
  cases (show none = some o6393 from ho6392)
  rw [slices_rotateCmpFunc_api_Edit_l0] at ho6392
  refine sq ?_
  refine sr r44_2 ?_
  refine xq 2 [(19, .int .i64 x6399), (18, .int .i64 x6398), (0, v5909), (2, .int .i64 a2), (4, .func (.func 31) #[] #[]), (10, .int .i64 x6398), (11, .int .i64 x6399)] ?_
  rcases ifs ho6392 with ⟨hp6405, ho6392⟩ | ⟨hp6405, ho6392⟩
  refine r_step rfl trivial (o_cmp rfl rfl (c_neq_F hp6405)) ?_
  refine xf [(20, .bool false), (0, v5909), (2, .int .i64 a2), (4, .func (.func 31) #[] #[]), (10, .int .i64 x6398), (11, .int .i64 x6399)] ?_
  refine cF 20 rfl ?_
  refine xt 0 ?_
  refine blkX_hit ?_
  obtain rfl := Option.some.inj ho6392
  exact ⟨_, x6395, x6398, c6397, rfl, q6396, rfl, hS6401⟩
  refine r_step rfl trivial (o_cmp rfl rfl (c_neq_T hp6405)) ?_
  refine xf [(20, .bool true), (0, v5909), (2, .int .i64 a2), (4, .func (.func 31) #[] #[]), (10, .int .i64 x6398), (11, .int .i64 x6399)] ?_
  refine kT 20 rfl ?_
  refine bk 1 ?_
  refine sr r44_3 ?_
  refine xq 2 [(22, .int .i64 x6399), (21, .int .i64 x6398), (0, v5909), (2, .int .i64 a2), (4, .func (.func 31) #[] #[]), (10, .int .i64 x6398), (11, .int .i64 x6399)] ?_
  rcases ifs ho6392 with ⟨hp6407, ho6392⟩ | ⟨hp6407, ho6392⟩
  refine r_step rfl trivial (o_cmp rfl rfl (c_gtr_T hp6407)) ?_
  refine xf [(23, .bool true), (0, v5909), (2, .int .i64 a2), (4, .func (.func 31) #[] #[]), (10, .int .i64 x6398), (11, .int .i64 x6399)] ?_
  refine cT 23 rfl ?_
  refine sr r44_4 ?_
  refine xq 7 [(30, .func (.func 31) #[] #[]), (29, .int .i64 x6399), (28, .int .i64 a2), (27, .int .i64 (w64 (a2 - x6398))), (24, v5909), (0, v5909), (2, .int .i64 a2), (4, .func (.func 31) #[] #[]), (10, .int .i64 x6398), (11, .int .i64 x6399)] ?_
  obtain ⟨r6408, hx6409, ho6392⟩ := obind ho6392
  have hF6415 : St _ _ _ _ _ _ ([.gs v5909 c6397 (csz api_Edit)] ++ []) := (hS6401.front 0 rfl)
  obtain ⟨v6410, h6411, Z6416, A6418, hcl6412, hSc6413, c6420, rfl, rfl, q6419⟩ := slices_swapRangeCmpFunc_api_Edit_ok F hF6415.preL q6396 hx6409
  have hZ6417 := hSc6413.zle
  have hS6414 := hF6415.call hSc6413
  replace hS6414 : St _ _ _ _ _ _ [.gs v5909 c6420 (csz api_Edit)] := hS6414
  refine r_step rfl trivial (o_call hcl6412 rfl rfl rfl) ?_
  refine xf [(0, v5909), (2, .int .i64 a2), (4, .func (.func 31) #[] #[]), (10, .int .i64 x6398), (11, .int .i64 x6399)] ?_
  refine rg r44_5 ?_
  refine xe 4 [(10, .int .i64 (w64 (x6398 - x6399))), (0, v5909), (2, .int .i64 a2), (4, .func (.func 31) #[] #[]), (11, .int .i64 x6399)] ?_
  exact ⟨n6402, Nat.lt_succ_self _, ⟨_, r6408, w64 (x6398 - x6399), x6399, c6420, ho6392, q6419, rfl, hS6414⟩⟩
  refine r_step rfl trivial (o_cmp rfl rfl (c_gtr_F hp6407)) ?_
  refine xf [(23, .bool false), (0, v5909), (2, .int .i64 a2), (4, .func (.func 31) #[] #[]), (10, .int .i64 x6398), (11, .int .i64 x6399)] ?_
  refine cF 23 rfl ?_
  refine sr r44_6 ?_
  refine xq 11 [(45, .func (.func 31) #[] #[]), (44, .int .i64 x6398), (43, .int .i64 (w64 ((w64 (a2 + x6399)) - x6398))), (38, .int .i64 (w64 (a2 - x6398))), (35, v5909), (0, v5909), (2, .int .i64 a2), (4, .func (.func 31) #[] #[]), (10, .int .i64 x6398), (11, .int .i64 x6399)] ?_
  obtain ⟨r6421, hx6422, ho6392⟩ := obind ho6392
  have hF6428 : St _ _ _ _ _ _ ([.gs v5909 c6397 (csz api_Edit)] ++ []) := (hS6401.front 0 rfl)
  obtain ⟨v6423, h6424, Z6429, A6431, hcl6425, hSc6426, c6433, rfl, rfl, q6432⟩ := slices_swapRangeCmpFunc_api_Edit_ok F hF6428.preL q6396 hx6422
  have hZ6430 := hSc6426.zle
  have hS6427 := hF6428.call hSc6426
  replace hS6427 : St _ _ _ _ _ _ [.gs v5909 c6433 (csz api_Edit)] := hS6427
  refine r_step rfl trivial (o_call hcl6425 rfl rfl rfl) ?_
  refine xf [(0, v5909), (2, .int .i64 a2), (4, .func (.func 31) #[] #[]), (10, .int .i64 x6398), (11, .int .i64 x6399)] ?_
  refine rg r44_7 ?_
  refine xe 4 [(11, .int .i64 (w64 (x6399 - x6398))), (0, v5909), (2, .int .i64 a2), (4, .func (.func 31) #[] #[]), (10, .int .i64 x6398)] ?_
  exact ⟨n6402, Nat.lt_succ_self _, ⟨_, r6421, x6398, w64 (x6399 - x6398), c6433, ho6392, q6432, rfl, hS6427⟩⟩

def slices_symMergeCmpFunc_api_Edit_C (rec_slices_symMergeCmpFunc_api_Edit : (List api_Edit) → Int → Int → Int → Option (List api_Edit)) : Prop := ∀ {h : AH} {Z : Zn} {a0 : List api_Edit} {a1 : Int} {a2 : Int} {a3 : Int} {v4122 : Value} {c4123 : List Value} (hP : Pre Z h [.gs v4122 c4123 (csz api_Edit)]) (q4121 : RCs (α := api_Edit) Z c4123 a0) {r : (List api_Edit)} (hm : rec_slices_symMergeCmpFunc_api_Edit a0 a1 a2 a3 = some r), ∃ v h' Z' A', callI Go.Proofs.Try.prog 42 [v4122, .int .i64 a1, .int .i64 a2, .int .i64 a3, .func (.func 31) #[] #[]] h = some (v, h') ∧ St h (idsL [.gs v4122 c4123 (csz api_Edit)]) Z (0, 0) Z' h' A' ∧ ∃ c8331 : List Value, .tuple #[] = v ∧ A' = [.gs v4122 c8331 (csz api_Edit)] ∧ RCs (α := api_Edit) Z' c8331 r


def r42_0 : List COp := [u 25 (.move (t 2)), u 26 (.move (t 1)), u 27 (.binOp .sub 3 (t 25) (t 26) 3), u 28 (.binOp .eql 3 (t 27) (ci 1) 3)]
def r42_1 : List COp := [u 29 (.move (t 2)), u 10 (.assign (t 29))]
def r42_2 : List COp := [u 30 (.move (t 3)), u 11 (.assign (t 30))]
def r42_3 : List COp := [u 31 (.move (t 10)), u 32 (.move (t 11)), u 33 (.binOp .lss 3 (t 31) (t 32) 3)]
def r42_4 : List COp := [u 34 (.move (t 10)), u 35 (.move (t 11)), u 36 (.binOp .add 3 (t 34) (t 35) 3), u 37 (.convert 3 68 (t 36)), u 38 (.binOp .shr 68 (t 37) (.const (.int .u64 1)) 68), u 39 (.convert 68 3 (t 38)), u 12 (.assign (t 39))]
def r42_5 : List COpF := [uF 40 (.move (t 4)) .pure [], uF 41 (.move (t 0)) .pure [], uF 42 (.move (t 12)) .pure [], uF 43 (.indexAddr 22 (t 41) (t 42)) .pure [], uF 44 (.load 29 (t 43)) .look [], uF 45 (.move (t 0)) .pure [], uF 46 (.move (t 1)) .pure [], uF 47 (.indexAddr 22 (t 45) (t 46)) .pure [], uF 48 (.load 29 (t 47)) .look [], uF 49 (.call { callee := (.value (t 40)), args := #[(t 44), (t 48)], argTypes := #[29, 29] }) .make [4, 8], uF 50 (.binOp .lss 3 (t 49) (ci 0) 3) .pure []]
def r42_6 : List COp := [u 51 (.move (t 12)), u 52 (.binOp .add 3 (t 51) (ci 1) 3), u 10 (.assign (t 52))]
def r42_7 : List COp := [u 53 (.move (t 12)), u 11 (.assign (t 53))]
def r42_8 : List COp := [u 54 (.move (t 1)), u 13 (.assign (t 54))]
def r42_9 : List COp := [u 55 (.move (t 13)), u 56 (.move (t 10)), u 57 (.binOp .sub 3 (t 56) (ci 1) 3), u 58 (.binOp .lss 3 (t 55) (t 57) 3)]
def r42_10 : List COp := [u 59 (.move (t 13)), u 60 (.binOp .add 3 (t 59) (ci 1) 3), u 13 (.assign (t 60))]
def r42_11 : List COpF := [uF 61 (.move (t 0)) .pure [], uF 62 (.move (t 13)) .pure [], uF 63 (.move (t 0)) .pure [], uF 64 (.move (t 13)) .pure [], uF 65 (.binOp .add 3 (t 64) (ci 1) 3) .pure [], uF 66 (.move (t 0)) .pure [], uF 67 (.move (t 13)) .pure [], uF 68 (.binOp .add 3 (t 67) (ci 1) 3) .pure [], uF 69 (.indexAddr 22 (t 66) (t 68)) .pure [], uF 70 (.load 29 (t 69)) .look [], uF 71 (.move (t 0)) .pure [], uF 72 (.move (t 13)) .pure [], uF 73 (.indexAddr 22 (t 71) (t 72)) .pure [], uF 74 (.load 29 (t 73)) .look [], uF 75 (.indexAddr 22 (t 61) (t 62)) .pure [], oF (.store 29 (t 75) (t 70)) .make [9, 13], uF 76 (.indexAddr 22 (t 63) (t 65)) .pure [], oF (.store 29 (t 76) (t 74)) .make [9, 13]]
def r42_12 : List COp := [u 77 (.move (t 3)), u 78 (.move (t 2)), u 79 (.binOp .sub 3 (t 77) (t 78) 3), u 80 (.binOp .eql 3 (t 79) (ci 1) 3)]
def r42_13 : List COp := [u 81 (.move (t 1)), u 14 (.assign (t 81))]
def r42_14 : List COp := [u 82 (.move (t 2)), u 15 (.assign (t 82))]
def r42_15 : List COp := [u 83 (.move (t 14)), u 84 (.move (t 15)), u 85 (.binOp .lss 3 (t 83) (t 84) 3)]
def r42_16 : List COp := [u 86 (.move (t 14)), u 87 (.move (t 15)), u 88 (.binOp .add 3 (t 86) (t 87) 3), u 89 (.convert 3 68 (t 88)), u 90 (.binOp .shr 68 (t 89) (.const (.int .u64 1)) 68), u 91 (.convert 68 3 (t 90)), u 16 (.assign (t 91))]
def r42_17 : List COpF := [uF 92 (.move (t 4)) .pure [], uF 93 (.move (t 0)) .pure [], uF 94 (.move (t 2)) .pure [], uF 95 (.indexAddr 22 (t 93) (t 94)) .pure [], uF 96 (.load 29 (t 95)) .look [], uF 97 (.move (t 0)) .pure [], uF 98 (.move (t 16)) .pure [], uF 99 (.indexAddr 22 (t 97) (t 98)) .pure [], uF 100 (.load 29 (t 99)) .look [], uF 101 (.call { callee := (.value (t 92)), args := #[(t 96), (t 100)], argTypes := #[29, 29] }) .make [4, 8], uF 102 (.binOp .lss 3 (t 101) (ci 0) 3) .pure [], uF 103 (.unOp .not 4 (t 102)) .pure []]
def r42_18 : List COp := [u 104 (.move (t 16)), u 105 (.binOp .add 3 (t 104) (ci 1) 3), u 14 (.assign (t 105))]
def r42_19 : List COp := [u 106 (.move (t 16)), u 15 (.assign (t 106))]
def r42_20 : List COp := [u 107 (.move (t 2)), u 17 (.assign (t 107))]
def r42_21 : List COp := [u 108 (.move (t 17)), u 109 (.move (t 14)), u 110 (.binOp .gtr 3 (t 108) (t 109) 3)]
def r42_22 : List COp := [u 111 (.move (t 17)), u 112 (.binOp .sub 3 (t 111) (ci 1) 3), u 17 (.assign (t 112))]
def r42_23 : List COpF := [uF 113 (.move (t 0)) .pure [], uF 114 (.move (t 17)) .pure [], uF 115 (.move (t 0)) .pure [], uF 116 (.move (t 17)) .pure [], uF 117 (.binOp .sub 3 (t 116) (ci 1) 3) .pure [], uF 118 (.move (t 0)) .pure [], uF 119 (.move (t 17)) .pure [], uF 120 (.binOp .sub 3 (t 119) (ci 1) 3) .pure [], uF 121 (.indexAddr 22 (t 118) (t 120)) .pure [], uF 122 (.load 29 (t 121)) .look [], uF 123 (.move (t 0)) .pure [], uF 124 (.move (t 17)) .pure [], uF 125 (.indexAddr 22 (t 123) (t 124)) .pure [], uF 126 (.load 29 (t 125)) .look [], uF 127 (.indexAddr 22 (t 113) (t 114)) .pure [], oF (.store 29 (t 127) (t 122)) .make [9, 13], uF 128 (.indexAddr 22 (t 115) (t 117)) .pure [], oF (.store 29 (t 128) (t 126)) .make [9, 13]]
def r42_24 : List COp := [u 129 (.move (t 1)), u 130 (.move (t 3)), u 131 (.binOp .add 3 (t 129) (t 130) 3), u 132 (.convert 3 68 (t 131)), u 133 (.binOp .shr 68 (t 132) (.const (.int .u64 1)) 68), u 134 (.convert 68 3 (t 133)), u 18 (.assign (t 134))]
def r42_25 : List COp := [u 135 (.move (t 18)), u 136 (.move (t 2)), u 137 (.binOp .add 3 (t 135) (t 136) 3), u 19 (.assign (t 137))]
def r42_26 : List COp := [u 20 (.assign (ci 0)), u 21 (.assign (ci 0))]
def r42_27 : List COp := [u 138 (.move (t 2)), u 139 (.move (t 18)), u 140 (.binOp .gtr 3 (t 138) (t 139) 3)]
def r42_28 : List COp := [u 141 (.move (t 19)), u 142 (.move (t 3)), u 143 (.binOp .sub 3 (t 141) (t 142) 3), u 20 (.assign (t 143))]
def r42_29 : List COp := [u 144 (.move (t 18)), u 21 (.assign (t 144))]
def r42_30 : List COp := [u 145 (.move (t 1)), u 20 (.assign (t 145))]
def r42_31 : List COp := [u 146 (.move (t 2)), u 21 (.assign (t 146))]
def r42_32 : List COp := [u 147 (.move (t 19)), u 148 (.binOp .sub 3 (t 147) (ci 1) 3), u 22 (.assign (t 148))]
def r42_33 : List COp := [u 149 (.move (t 20)), u 150 (.move (t 21)), u 151 (.binOp .lss 3 (t 149) (t 150) 3)]
def r42_34 : List COp := [u 152 (.move (t 20)), u 153 (.move (t 21)), u 154 (.binOp .add 3 (t 152) (t 153) 3), u 155 (.convert 3 68 (t 154)), u 156 (.binOp .shr 68 (t 155) (.const (.int .u64 1)) 68), u 157 (.convert 68 3 (t 156)), u 23 (.assign (t 157))]
def r42_35 : List COpF := [uF 158 (.move (t 4)) .pure [], uF 159 (.move (t 0)) .pure [], uF 160 (.move (t 22)) .pure [], uF 161 (.move (t 23)) .pure [], uF 162 (.binOp .sub 3 (t 160) (t 161) 3) .pure [], uF 163 (.indexAddr 22 (t 159) (t 162)) .pure [], uF 164 (.load 29 (t 163)) .look [], uF 165 (.move (t 0)) .pure [], uF 166 (.move (t 23)) .pure [], uF 167 (.indexAddr 22 (t 165) (t 166)) .pure [], uF 168 (.load 29 (t 167)) .look [], uF 169 (.call { callee := (.value (t 158)), args := #[(t 164), (t 168)], argTypes := #[29, 29] }) .make [6, 10], uF 170 (.binOp .lss 3 (t 169) (ci 0) 3) .pure [], uF 171 (.unOp .not 4 (t 170)) .pure []]
def r42_36 : List COp := [u 172 (.move (t 23)), u 173 (.binOp .add 3 (t 172) (ci 1) 3), u 20 (.assign (t 173))]
def r42_37 : List COp := [u 174 (.move (t 23)), u 21 (.assign (t 174))]
def r42_38 : List COp := [u 175 (.move (t 19)), u 176 (.move (t 20)), u 177 (.binOp .sub 3 (t 175) (t 176) 3), u 24 (.assign (t 177))]
def r42_39 : List COp := [u 178 (.move (t 20)), u 179 (.move (t 2)), u 180 (.binOp .lss 3 (t 178) (t 179) 3), u 181 (.move (t 180)), gT 181 (some 182) (.move (t 2)), gT 181 (some 183) (.move (t 24)), gT 181 (some 184) (.binOp .lss 3 (t 182) (t 183) 3), u 185 (.pick (t 181) (t 184) (.const (.bool false)))]
def r42_40 : List COp := [u 186 (.move (t 0)), u 187 (.move (t 20)), u 188 (.move (t 2)), u 189 (.move (t 24)), u 190 (.move (t 4)), u 191 (cf 44 #[(t 186), (t 187), (t 188), (t 189), (t 190)] #[22, 3, 3, 3, 54])]
def r42_41 : List COp := [u 192 (.move (t 1)), u 193 (.move (t 20)), u 194 (.binOp .lss 3 (t 192) (t 193) 3), u 195 (.move (t 194)), gT 195 (some 196) (.move (t 20)), gT 195 (some 197) (.move (t 18)), gT 195 (some 198) (.binOp .lss 3 (t 196) (t 197) 3), u 199 (.pick (t 195) (t 198) (.const (.bool false)))]
def r42_42 : List COp := [u 200 (.move (t 0)), u 201 (.move (t 1)), u 202 (.move (t 20)), u 203 (.move (t 18)), u 204 (.move (t 4)), u 205 (cf 42 #[(t 200), (t 201), (t 202), (t 203), (t 204)] #[22, 3, 3, 3, 54])]
def r42_43 : List COp := [u 206 (.move (t 18)), u 207 (.move (t 24)), u 208 (.binOp .lss 3 (t 206) (t 207) 3), u 209 (.move (t 208)), gT 209 (some 210) (.move (t 24)), gT 209 (some 211) (.move (t 3)), gT 209 (some 212) (.binOp .lss 3 (t 210) (t 211) 3), u 213 (.pick (t 209) (t 212) (.const (.bool false)))]
def r42_44 : List COp := [u 214 (.move (t 0)), u 215 (.move (t 18)), u 216 (.move (t 24)), u 217 (.move (t 3)), u 218 (.move (t 4)), u 219 (cf 42 #[(t 214), (t 215), (t 216), (t 217), (t 218)] #[22, 3, 3, 3, 54])]
def slices_symMergeCmpFunc_api_Edit_l0 (F : Nat) (rec_slices_symMergeCmpFunc_api_Edit : (List api_Edit) → Int → Int → Int → Option (List api_Edit)) (a0 : List api_Edit) (a1 : Int) (a2 : Int) (a3 : Int) : Nat → Int → Int → Option Int
  | 0, _, _ => none
  | n + 1, x9070, x9071 =>
    if x9070 < x9071 then
      if 0 ≤ (w64 (ishr .u64 (IntKind.wrap .u64 (w64 (x9070 + x9071))) 1)) ∧ (w64 (ishr .u64 (IntKind.wrap .u64 (w64 (x9070 + x9071))) 1)) < (a0.length : Int) then
        (a0[(w64 (ishr .u64 (IntKind.wrap .u64 (w64 (x9070 + x9071))) 1)).toNat]?).bind fun x9083 =>
        if 0 ≤ a1 ∧ a1 < (a0.length : Int) then
          (a0[a1.toNat]?).bind fun x9093 =>
          (edit_Choose_2 F x9083 x9093).bind fun r9102 =>
          if r9102 < (0 : Int) then
            slices_symMergeCmpFunc_api_Edit_l0 F rec_slices_symMergeCmpFunc_api_Edit a0 a1 a2 a3 n (w64 ((w64 (ishr .u64 (IntKind.wrap .u64 (w64 (x9070 + x9071))) 1)) + 1)) x9071
          else
            slices_symMergeCmpFunc_api_Edit_l0 F rec_slices_symMergeCmpFunc_api_Edit a0 a1 a2 a3 n x9070 (w64 (ishr .u64 (IntKind.wrap .u64 (w64 (x9070 + x9071))) 1))
        else none
      else none
    else
      some x9070
def slices_symMergeCmpFunc_api_Edit_l1 (F : Nat) (rec_slices_symMergeCmpFunc_api_Edit : (List api_Edit) → Int → Int → Int → Option (List api_Edit)) (a0 : List api_Edit) (a1 : Int) (a2 : Int) (a3 : Int) : Nat → (List api_Edit) → Int → Int → Option (List api_Edit)
  | 0, _, _, _ => none
  | n + 1, x9239, x9242, x9243 =>
    if x9243 < (w64 (x9242 - 1)) then
      if 0 ≤ (w64 (x9243 + 1)) ∧ (w64 (x9243 + 1)) < (x9239.length : Int) then
        (x9239[(w64 (x9243 + 1)).toNat]?).bind fun x9255 =>
        if 0 ≤ x9243 ∧ x9243 < (x9239.length : Int) then
          (x9239[x9243.toNat]?).bind fun x9265 =>
          if 0 ≤ x9243 ∧ x9243 < (x9239.length : Int) then
            (x9239[x9243.toNat]?).bind fun x9275 =>
            if 0 ≤ (w64 (x9243 + 1)) ∧ (w64 (x9243 + 1)) < ((x9239.set x9243.toNat x9255).length : Int) then
              ((x9239.set x9243.toNat x9255)[(w64 (x9243 + 1)).toNat]?).bind fun x9287 =>
              slices_symMergeCmpFunc_api_Edit_l1 F rec_slices_symMergeCmpFunc_api_Edit a0 a1 a2 a3 n ((x9239.set x9243.toNat x9255).set (w64 (x9243 + 1)).toNat x9265) x9242 (w64 (x9243 + 1))
            else none
          else none
        else none
      else none
    else
      some x9239
def slices_symMergeCmpFunc_api_Edit_l2 (F : Nat) (rec_slices_symMergeCmpFunc_api_Edit : (List api_Edit) → Int → Int → Int → Option (List api_Edit)) (a0 : List api_Edit) (a1 : Int) (a2 : Int) (a3 : Int) : Nat → Int → Int → Option Int
  | 0, _, _ => none
  | n + 1, x10050, x10051 =>
    if x10050 < x10051 then
      if 0 ≤ a2 ∧ a2 < (a0.length : Int) then
        (a0[a2.toNat]?).bind fun x10063 =>
        if 0 ≤ (w64 (ishr .u64 (IntKind.wrap .u64 (w64 (x10050 + x10051))) 1)) ∧ (w64 (ishr .u64 (IntKind.wrap .u64 (w64 (x10050 + x10051))) 1)) < (a0.length : Int) then
          (a0[(w64 (ishr .u64 (IntKind.wrap .u64 (w64 (x10050 + x10051))) 1)).toNat]?).bind fun x10073 =>
          (edit_Choose_2 F x10063 x10073).bind fun r10082 =>
          if r10082 < (0 : Int) then
            slices_symMergeCmpFunc_api_Edit_l2 F rec_slices_symMergeCmpFunc_api_Edit a0 a1 a2 a3 n x10050 (w64 (ishr .u64 (IntKind.wrap .u64 (w64 (x10050 + x10051))) 1))
          else
            slices_symMergeCmpFunc_api_Edit_l2 F rec_slices_symMergeCmpFunc_api_Edit a0 a1 a2 a3 n (w64 ((w64 (ishr .u64 (IntKind.wrap .u64 (w64 (x10050 + x10051))) 1)) + 1)) x10051
        else none
      else none
    else
      some x10050
def slices_symMergeCmpFunc_api_Edit_l3 (F : Nat) (rec_slices_symMergeCmpFunc_api_Edit : (List api_Edit) → Int → Int → Int → Option (List api_Edit)) (a0 : List api_Edit) (a1 : Int) (a2 : Int) (a3 : Int) : Nat → (List api_Edit) → Int → Int → Option (List api_Edit)
  | 0, _, _, _ => none
  | n + 1, x10219, x10222, x10223 =>
    if x10222 < x10223 then
      if 0 ≤ (w64 (x10223 - 1)) ∧ (w64 (x10223 - 1)) < (x10219.length : Int) then
        (x10219[(w64 (x10223 - 1)).toNat]?).bind fun x10235 =>
        if 0 ≤ x10223 ∧ x10223 < (x10219.length : Int) then
          (x10219[x10223.toNat]?).bind fun x10245 =>
          if 0 ≤ x10223 ∧ x10223 < (x10219.length : Int) then
            (x10219[x10223.toNat]?).bind fun x10255 =>
            if 0 ≤ (w64 (x10223 - 1)) ∧ (w64 (x10223 - 1)) < ((x10219.set x10223.toNat x10235).length : Int) then
              ((x10219.set x10223.toNat x10235)[(w64 (x10223 - 1)).toNat]?).bind fun x10267 =>
              slices_symMergeCmpFunc_api_Edit_l3 F rec_slices_symMergeCmpFunc_api_Edit a0 a1 a2 a3 n ((x10219.set x10223.toNat x10235).set (w64 (x10223 - 1)).toNat x10245) x10222 (w64 (x10223 - 1))
            else none
          else none
        else none
      else none
    else
      some x10219
def slices_symMergeCmpFunc_api_Edit_l4 (F : Nat) (rec_slices_symMergeCmpFunc_api_Edit : (List api_Edit) → Int → Int → Int → Option (List api_Edit)) (a0 : List api_Edit) (a1 : Int) (a2 : Int) (a3 : Int) : Nat → Int → Int → Int → Int → Int → Option (Int × Int × Int)
  | 0, _, _, _, _, _ => none
  | n + 1, x10352, x10353, x10354, x10355, x10356 =>
    if x10354 < x10355 then
      if 0 ≤ (w64 (x10356 - (w64 (ishr .u64 (IntKind.wrap .u64 (w64 (x10354 + x10355))) 1)))) ∧ (w64 (x10356 - (w64 (ishr .u64 (IntKind.wrap .u64 (w64 (x10354 + x10355))) 1)))) < (a0.length : Int) then
        (a0[(w64 (x10356 - (w64 (ishr .u64 (IntKind.wrap .u64 (w64 (x10354 + x10355))) 1)))).toNat]?).bind fun x10368 =>
        if 0 ≤ (w64 (ishr .u64 (IntKind.wrap .u64 (w64 (x10354 + x10355))) 1)) ∧ (w64 (ishr .u64 (IntKind.wrap .u64 (w64 (x10354 + x10355))) 1)) < (a0.length : Int) then
          (a0[(w64 (ishr .u64 (IntKind.wrap .u64 (w64 (x10354 + x10355))) 1)).toNat]?).bind fun x10378 =>
          (edit_Choose_2 F x10368 x10378).bind fun r10387 =>
          if r10387 < (0 : Int) then
            slices_symMergeCmpFunc_api_Edit_l4 F rec_slices_symMergeCmpFunc_api_Edit a0 a1 a2 a3 n x10352 x10353 x10354 (w64 (ishr .u64 (IntKind.wrap .u64 (w64 (x10354 + x10355))) 1)) x10356
          else
            slices_symMergeCmpFunc_api_Edit_l4 F rec_slices_symMergeCmpFunc_api_Edit a0 a1 a2 a3 n x10352 x10353 (w64 ((w64 (ishr .u64 (IntKind.wrap .u64 (w64 (x10354 + x10355))) 1)) + 1)) x10355 x10356
        else none
      else none
    else
      some (x10352, x10353, x10354)
def slices_symMergeCmpFunc_api_Edit_b (F : Nat) (rec_slices_symMergeCmpFunc_api_Edit : (List api_Edit) → Int → Int → Int → Option (List api_Edit)) (a0 : List api_Edit) (a1 : Int) (a2 : Int) (a3 : Int) : Option (List api_Edit) :=
  if (w64 (a2 - a1)) = (1 : Int) then
    ((slices_symMergeCmpFunc_api_Edit_l0 F rec_slices_symMergeCmpFunc_api_Edit a0 a1 a2 a3 F a2 a3) : Option Int).bind fun o => match o with
      | x9117 => ((slices_symMergeCmpFunc_api_Edit_l1 F rec_slices_symMergeCmpFunc_api_Edit a0 a1 a2 a3 F a0 x9117 a1) : Option (List api_Edit)).bind fun o => match o with
        | x9303 => some x9303
  else
    if (w64 (a3 - a2)) = (1 : Int) then
      ((slices_symMergeCmpFunc_api_Edit_l2 F rec_slices_symMergeCmpFunc_api_Edit a0 a1 a2 a3 F a1 a2) : Option Int).bind fun o => match o with
        | x10097 => ((slices_symMergeCmpFunc_api_Edit_l3 F rec_slices_symMergeCmpFunc_api_Edit a0 a1 a2 a3 F a0 x10097 a2) : Option (List api_Edit)).bind fun o => match o with
          | x10283 => some x10283
    else
      ((if (w64 (ishr .u64 (IntKind.wrap .u64 (w64 (a1 + a3))) 1)) < a2 then
          some (w64 ((w64 ((w64 (ishr .u64 (IntKind.wrap .u64 (w64 (a1 + a3))) 1)) + a2)) - a3), w64 (ishr .u64 (IntKind.wrap .u64 (w64 (a1 + a3))) 1))
        else
          some (a1, a2)) : Option (Int × Int)).bind fun o => match o with
        | (x10297, x10298) => ((slices_symMergeCmpFunc_api_Edit_l4 F rec_slices_symMergeCmpFunc_api_Edit a0 a1 a2 a3 F (w64 (ishr .u64 (IntKind.wrap .u64 (w64 (a1 + a3))) 1)) (w64 ((w64 (ishr .u64 (IntKind.wrap .u64 (w64 (a1 + a3))) 1)) + a2)) x10297 x10298 (w64 ((w64 ((w64 (ishr .u64 (IntKind.wrap .u64 (w64 (a1 + a3))) 1)) + a2)) - 1))) : Option (Int × Int × Int)).bind fun o => match o with
          | (x10404, x10405, x10406) => ((if x10406 < a2 then
              if a2 < (w64 (x10405 - x10406)) then
                (slices_rotateCmpFunc_api_Edit F a0 x10406 a2 (w64 (x10405 - x10406))).bind fun r10428 =>
                some r10428
              else
                some a0
            else
              some a0) : Option (List api_Edit)).bind fun o => match o with
            | x10442 => ((if a1 < x10406 then
                if x10406 < x10404 then
                  (rec_slices_symMergeCmpFunc_api_Edit x10442 a1 x10406 x10404).bind fun r10466 =>
                  some r10466
                else
                  some x10442
              else
                some x10442) : Option (List api_Edit)).bind fun o => match o with
              | x10480 => if x10404 < (w64 (x10405 - x10406)) then
                if (w64 (x10405 - x10406)) < a3 then
                  (rec_slices_symMergeCmpFunc_api_Edit x10480 x10404 (w64 (x10405 - x10406)) a3).bind fun r10487 =>
                  some r10487
                else
                  some x10480
              else
                some x10480
theorem slices_symMergeCmpFunc_api_Edit_b_ok (F : Nat) (rec_slices_symMergeCmpFunc_api_Edit : (List api_Edit) → Int → Int → Int → Option (List api_Edit)) (hrec_slices_symMergeCmpFunc_api_Edit : slices_symMergeCmpFunc_api_Edit_C rec_slices_symMergeCmpFunc_api_Edit) {h : AH} {Z : Zn} {a0 : List api_Edit} {a1 : Int} {a2 : Int} {a3 : Int} {v4122 : Value} {c4123 : List Value} (hP : Pre Z h [.gs v4122 c4123 (csz api_Edit)]) (q4121 : RCs (α := api_Edit) Z c4123 a0) {r : (List api_Edit)} (hm : slices_symMergeCmpFunc_api_Edit_b F rec_slices_symMergeCmpFunc_api_Edit a0 a1 a2 a3 = some r) :
    ∃ v h' Z' A', callI Go.Proofs.Try.prog 42 [v4122, .int .i64 a1, .int .i64 a2, .int .i64 a3, .func (.func 31) #[] #[]] h = some (v, h') ∧ St h (idsL [.gs v4122 c4123 (csz api_Edit)]) Z (0, 0) Z' h' A' ∧ ∃ c8331 : List Value, .tuple #[] = v ∧ A' = [.gs v4122 c8331 (csz api_Edit)] ∧ RCs (α := api_Edit) Z' c8331 r := by
  refine fn_intro (A := [.gs v4122 c4123 (csz api_Edit)]) (Q := fun v Z' A' => ∃ c8331 : List Value, .tuple #[] = v ∧ A' = [.gs v4122 c8331 (csz api_Edit)] ∧ RCs (α := api_Edit) Z' c8331 r) Go.Proofs.Try.func42 rfl rfl (by kernel_rfl) hP ?_
  intro hs hS
  unfold slices_symMergeCmpFunc_api_Edit_b at hm
  refine sq ?_
  refine sr r42_0 ?_
  refine xq 3 [(27, .int .i64 (w64 (a2 - a1))), (0, v4122), (1, .int .i64 a1), (2, .int .i64 a2), (3, .int .i64 a3), (4, .func (.func 31) #[] #[])] ?_
  rcases ifs hm with ⟨hp8764, hm⟩ | ⟨hp8764, hm⟩
  refine r_step rfl trivial (o_cmp rfl rfl (c_eql_T hp8764)) ?_
  refine xf [(28, .bool true), (0, v4122), (1, .int .i64 a1), (2, .int .i64 a2), (3, .int .i64 a3), (4, .func (.func 31) #[] #[])] ?_
  refine cT 28 rfl ?_
  refine sr r42_1 ?_
  refine xe 2 [(10, .int .i64 a2), (0, v4122), (1, .int .i64 a1), (3, .int .i64 a3), (4, .func (.func 31) #[] #[])] ?_
  refine sr r42_2 ?_
  refine xe 2 [(11, .int .i64 a3), (10, .int .i64 a2), (0, v4122), (1, .int .i64 a1), (4, .func (.func 31) #[] #[])] ?_
  refine sq ?_
  obtain ⟨o9068, ho9067, hm⟩ := obind hm
  refine W_join [0, 1, 10] (fun l h => ∃ Z9116 : Zn, ∃ x9117 : Int, x9117 = o9068 ∧ l = [(0, v4122), (1, .int .i64 a1), (10, .int .i64 x9117)] ∧ St hs (idsL [.gs v4122 c4123 (csz api_Edit)]) Z (0, 0) Z9116 h [.gs v4122 c4123 (csz api_Edit)]) ?_ ?_
  rintro l h9118 ⟨Z9116, x9117, rfl, rfl, hS9119⟩
  try dsimp only at hm
  refine sq ?_
  refine sr r42_8 ?_
  refine xe 2 [(13, .int .i64 a1), (0, v4122), (10, .int .i64 x9117)] ?_
  obtain ⟨o9237, ho9236, hm⟩ := obind hm
  refine W_join [] (fun l h => ∃ Z9302 : Zn, ∃ x9303 : List api_Edit, ∃ c9305 : List Value, x9303 = o9237 ∧ RCs (α := api_Edit) Z9302 c9305 x9303 ∧ l = [] ∧ St hs (idsL [.gs v4122 c4123 (csz api_Edit)]) Z (0, 0) Z9302 h [.gs v4122 c9305 (csz api_Edit)]) ?_ ?_
  rintro l h9306 ⟨Z9302, x9303, c9305, rfl, q9304, rfl, hS9307⟩
  try dsimp only at hm
  refine rt ?_
  refine ⟨rfl, ?_⟩
  obtain rfl := Option.some.inj hm
  refine ⟨_, _, _, ResL.nil, hS9307, ?_⟩
  exact ⟨c9305, rfl, rfl, q9304⟩
  refine bk 2 ?_
  refine lp [0, 10, 13] (fun n l h => ∃ Z9238 : Zn, ∃ x9239 : List api_Edit, ∃ x9242 : Int, ∃ x9243 : Int, ∃ c9241 : List Value, slices_symMergeCmpFunc_api_Edit_l1 F rec_slices_symMergeCmpFunc_api_Edit a0 a1 a2 a3 n x9239 x9242 x9243 = some o9237 ∧ RCs (α := api_Edit) Z9238 c9241 x9239 ∧ l = [(0, v4122), (10, .int .i64 x9242), (13, .int .i64 x9243)] ∧ St hs (idsL [.gs v4122 c4123 (csz api_Edit)]) Z (0, 0) Z9238 h [.gs v4122 c9241 (csz api_Edit)]) F ⟨_, a0, x9117, a1, c4123, ho9236, (q4121.mono hS9119.zle), rfl, hS9119⟩ ?_
  rintro n9246 l h9244 ⟨Z9238, x9239, x9242, x9243, c9241, ho9236, q9240, rfl, hS9245⟩
  rcases n9246 with _ | n9246
  cases (show none = some o9237 from ho9236)
  rw [slices_symMergeCmpFunc_api_Edit_l1] at ho9236
  refine sq ?_
  refine sr r42_9 ?_
  refine xq 3 [(57, .int .i64 (w64 (x9242 - 1))), (55, .int .i64 x9243), (0, v4122), (10, .int .i64 x9242), (13, .int .i64 x9243)] ?_
  rcases ifs ho9236 with ⟨hp9249, ho9236⟩ | ⟨hp9249, ho9236⟩
  refine r_step rfl trivial (o_cmp rfl rfl (c_lss_T hp9249)) ?_
  refine xf [(58, .bool true), (0, v4122), (10, .int .i64 x9242), (13, .int .i64 x9243)] ?_
  refine kT 58 rfl ?_
  refine sq ?_
  refine bk 3 ?_
  refine rgF r42_11 hS9245 ?_
  intro bs9250 h9251 hlv9253 hS9252
  refine yq 8 [(68, .int .i64 (w64 (x9243 + 1))), (66, v4122), (65, .int .i64 (w64 (x9243 + 1))), (63, v4122), (62, .int .i64 x9243), (61, v4122), (0, v4122), (10, .int .i64 x9242), (13, .int .i64 x9243)] ?_
  obtain ⟨hc9254, ho9236⟩ := chk ho9236
  refine e_val rfl trivial (o_index rfl rfl (by kernel_rfl : slTy _ _ = some (csz api_Edit)) (hS9252.gbased (j := 0) rfl q9240 (by omega)) hc9254.1 hc9254.2) ?_
  obtain ⟨x9255, hx9256, ho9236⟩ := obind ho9236
  obtain ⟨cs9257, hc9258, he9259, ht9260⟩ := hS9252.gel (j := 0) rfl q9240 (i := w64 (x9243 + 1)) hx9256
  obtain rfl := rc_api_Edit hc9258
  have ps9261 := pos_of hx9256
  have hB9262 := hS9252.gbased (j := 0) rfl q9240 ps9261
  have lt9263 : (baseOf v4122).block < bs9250 := row_ltM (hlv9253.1 _ (List.mem_of_getElem? (i := 0) rfl)) hB9262
  refine e_lookB rfl trivial rfl (by show (baseOf v4122).block < _; omega) (same_agg (cs := [.int .i64 x9255.From, .int .i64 x9255.To, .string ⟨⟨x9255.Put.b⟩⟩]) (.cons trivial (.cons trivial (.cons trivial .nil)))) (o_lde (w := .agg #[.int .i64 x9255.From, .int .i64 x9255.To, .string ⟨⟨x9255.Put.b⟩⟩]) he9259 rfl (by kernel_rfl)) trivial ?_
  refine yq 2 [(72, .int .i64 x9243), (71, v4122), (70, .agg #[.int .i64 x9255.From, .int .i64 x9255.To, .string ⟨⟨x9255.Put.b⟩⟩]), (65, .int .i64 (w64 (x9243 + 1))), (63, v4122), (62, .int .i64 x9243), (61, v4122), (0, v4122), (10, .int .i64 x9242), (13, .int .i64 x9243)] ?_
  obtain ⟨hc9264, ho9236⟩ := chk ho9236
  refine e_val rfl trivial (o_index rfl rfl (by kernel_rfl : slTy _ _ = some (csz api_Edit)) (hS9252.gbased (j := 0) rfl q9240 (by omega)) hc9264.1 hc9264.2) ?_
  obtain ⟨x9265, hx9266, ho9236⟩ := obind ho9236
  obtain ⟨cs9267, hc9268, he9269, ht9270⟩ := hS9252.gel (j := 0) rfl q9240 (i := x9243) hx9266
  obtain rfl := rc_api_Edit hc9268
  have ps9271 := pos_of hx9266
  have hB9272 := hS9252.gbased (j := 0) rfl q9240 ps9271
  have lt9273 : (baseOf v4122).block < bs9250 := row_ltM (hlv9253.1 _ (List.mem_of_getElem? (i := 0) rfl)) hB9272
  refine e_lookB rfl trivial rfl (by show (baseOf v4122).block < _; omega) (same_agg (cs := [.int .i64 x9265.From, .int .i64 x9265.To, .string ⟨⟨x9265.Put.b⟩⟩]) (.cons trivial (.cons trivial (.cons trivial .nil)))) (o_lde (w := .agg #[.int .i64 x9265.From, .int .i64 x9265.To, .string ⟨⟨x9265.Put.b⟩⟩]) he9269 rfl (by kernel_rfl)) trivial ?_
  obtain ⟨hc9274, ho9236⟩ := chk ho9236
  refine e_val rfl trivial (o_index rfl rfl (by kernel_rfl : slTy _ _ = some (csz api_Edit)) (hS9252.gbased (j := 0) rfl q9240 (by omega)) hc9274.1 hc9274.2) ?_
  obtain ⟨x9275, hx9276, ho9236⟩ := obind ho9236
  obtain ⟨cs9277, hc9278, he9279, ht9280⟩ := hS9252.gel (j := 0) rfl q9240 (i := x9243) hx9276
  obtain rfl := rc_api_Edit hc9278
  have hF9285 : St _ _ _ _ _ _ ([.gs v4122 c9241 (csz api_Edit)] ++ []) := (hS9252.front 0 rfl)
  refine e_mk2 rfl trivial hF9285 (o_ste (u' := x9255) (vs := [.int .i64 x9255.From, .int .i64 x9255.To, .string ⟨⟨x9255.Put.b⟩⟩]) (cs' := [.int .i64 x9255.From, .int .i64 x9255.To, .string ⟨⟨x9255.Put.b⟩⟩]) hF9285.sub (m := 0) rfl q9240 hx9276 ht9280 rfl rfl rfl (by kernel_rfl) rfl rfl rfl rfl) (Zle.refl _) (.drop (by decide) (.drop (by decide) .nil)) ?_
  rintro h9281 c9282 ⟨q9284, hS9283⟩
  replace hS9283 : St _ _ _ _ _ _ [.gs v4122 c9282 (csz api_Edit)] := hS9283
  obtain ⟨hc9286, ho9236⟩ := chk ho9236
  refine e_val rfl trivial (o_index rfl rfl (by kernel_rfl : slTy _ _ = some (csz api_Edit)) (hS9283.gbased (j := 0) rfl q9284 (by omega)) hc9286.1 hc9286.2) ?_
  obtain ⟨x9287, hx9288, ho9236⟩ := obind ho9236
  obtain ⟨cs9289, hc9290, he9291, ht9292⟩ := hS9283.gel (j := 0) rfl q9284 (i := w64 (x9243 + 1)) hx9288
  obtain rfl := rc_api_Edit hc9290
  have hF9297 : St _ _ _ _ _ _ ([.gs v4122 c9282 (csz api_Edit)] ++ []) := (hS9283.front 0 rfl)
  refine e_mk2 rfl trivial hF9297 (o_ste (u' := x9265) (vs := [.int .i64 x9265.From, .int .i64 x9265.To, .string ⟨⟨x9265.Put.b⟩⟩]) (cs' := [.int .i64 x9265.From, .int .i64 x9265.To, .string ⟨⟨x9265.Put.b⟩⟩]) hF9297.sub (m := 0) rfl q9284 hx9288 ht9292 rfl rfl rfl (by kernel_rfl) rfl rfl rfl rfl) (Zle.refl _) (.drop (by decide) (.drop (by decide) .nil)) ?_
  rintro h9293 c9294 ⟨q9296, hS9295⟩
  replace hS9295 : St _ _ _ _ _ _ [.gs v4122 c9294 (csz api_Edit)] := hS9295
  refine yf [(0, v4122), (10, .int .i64 x9242), (13, .int .i64 x9243)] ?_
  have hS9298 := hS9295.unres
  refine rg r42_10 ?_
  refine xe 3 [(13, .int .i64 (w64 (x9243 + 1))), (0, v4122), (10, .int .i64 x9242)] ?_
  exact ⟨n9246, Nat.lt_succ_self _, ⟨_, (x9239.set x9243.toNat x9255).set (w64 (x9243 + 1)).toNat x9265, x9242, w64 (x9243 + 1), c9294, ho9236, q9296, rfl, hS9298⟩⟩
  refine r_step rfl trivial (o_cmp rfl rfl (c_lss_F hp9249)) ?_
  refine xf [(58, .bool false), (0, v4122), (10, .int .i64 x9242), (13, .int .i64 x9243)] ?_
  refine cF 58 rfl ?_
  refine xt 2 ?_
  refine blkX_hit ?_
  obtain rfl := Option.some.inj ho9236
  exact ⟨_, x9239, c9241, rfl, q9240, rfl, hS9245⟩
  refine bk 0 ?_
  refine lp [0, 1, 4, 10, 11] (fun n l h => ∃ Z9069 : Zn, ∃ x9070 : Int, ∃ x9071 : Int, slices_symMergeCmpFunc_api_Edit_l0 F rec_slices_symMergeCmpFunc_api_Edit a0 a1 a2 a3 n x9070 x9071 = some o9068 ∧ l = [(0, v4122), (1, .int .i64 a1), (4, .func (.func 31) #[] #[]), (10, .int .i64 x9070), (11, .int .i64 x9071)] ∧ St hs (idsL [.gs v4122 c4123 (csz api_Edit)]) Z (0, 0) Z9069 h [.gs v4122 c4123 (csz api_Edit)]) F ⟨_, a2, a3, ho9067, rfl, hS⟩ ?_
  rintro n9074 l h9072 ⟨Z9069, x9070, x9071, ho9067, rfl, hS9073⟩
  rcases n9074 with _ | n9074
  cases (show none = some o9068 from ho9067)
  rw [slices_symMergeCmpFunc_api_Edit_l0] at ho9067
  refine sq ?_
  refine sr r42_3 ?_
  refine xq 2 [(32, .int .i64 x9071), (31, .int .i64 x9070), (0, v4122), (1, .int .i64 a1), (4, .func (.func 31) #[] #[]), (10, .int .i64 x9070), (11, .int .i64 x9071)] ?_
  rcases ifs ho9067 with ⟨hp9077, ho9067⟩ | ⟨hp9077, ho9067⟩
  refine r_step rfl trivial (o_cmp rfl rfl (c_lss_T hp9077)) ?_
  refine xf [(33, .bool true), (0, v4122), (1, .int .i64 a1), (4, .func (.func 31) #[] #[]), (10, .int .i64 x9070), (11, .int .i64 x9071)] ?_
  refine kT 33 rfl ?_
  refine bk 1 ?_
  refine sr r42_4 ?_
  refine xq 3 [(36, .int .i64 (w64 (x9070 + x9071))), (0, v4122), (1, .int .i64 a1), (4, .func (.func 31) #[] #[]), (10, .int .i64 x9070), (11, .int .i64 x9071)] ?_
  refine r_step rfl trivial (o_conv (k := .u64) (n := w64 (x9070 + x9071)) rfl (by kernel_rfl)) ?_
  refine xq 1 [(38, .int .u64 (ishr .u64 (IntKind.wrap .u64 (w64 (x9070 + x9071))) 1)), (0, v4122), (1, .int .i64 a1), (4, .func (.func 31) #[] #[]), (10, .int .i64 x9070), (11, .int .i64 x9071)] ?_
  refine r_step rfl trivial (o_conv (k := .i64) (n := ishr .u64 (IntKind.wrap .u64 (w64 (x9070 + x9071))) 1) rfl (by kernel_rfl)) ?_
  refine xe 1 [(12, .int .i64 (w64 (ishr .u64 (IntKind.wrap .u64 (w64 (x9070 + x9071))) 1))), (0, v4122), (1, .int .i64 a1), (4, .func (.func 31) #[] #[]), (10, .int .i64 x9070), (11, .int .i64 x9071)] ?_
  refine srF r42_5 hS9073 ?_
  intro bs9078 h9079 hlv9081 hS9080
  refine yq 3 [(42, .int .i64 (w64 (ishr .u64 (IntKind.wrap .u64 (w64 (x9070 + x9071))) 1))), (41, v4122), (40, .func (.func 31) #[] #[]), (12, .int .i64 (w64 (ishr .u64 (IntKind.wrap .u64 (w64 (x9070 + x9071))) 1))), (0, v4122), (1, .int .i64 a1), (4, .func (.func 31) #[] #[]), (10, .int .i64 x9070), (11, .int .i64 x9071)] ?_
  obtain ⟨hc9082, ho9067⟩ := chk ho9067
  refine e_val rfl trivial (o_index rfl rfl (by kernel_rfl : slTy _ _ = some (csz api_Edit)) (hS9080.gbased (j := 0) rfl (q4121.mono hS9073.zle) (by omega)) hc9082.1 hc9082.2) ?_
  obtain ⟨x9083, hx9084, ho9067⟩ := obind ho9067
  obtain ⟨cs9085, hc9086, he9087, ht9088⟩ := hS9080.gel (j := 0) rfl (q4121.mono hS9073.zle) (i := w64 (ishr .u64 (IntKind.wrap .u64 (w64 (x9070 + x9071))) 1)) hx9084
  obtain rfl := rc_api_Edit hc9086
  have ps9089 := pos_of hx9084
  have hB9090 := hS9080.gbased (j := 0) rfl (q4121.mono hS9073.zle) ps9089
  have lt9091 : (baseOf v4122).block < bs9078 := row_ltM (hlv9081.1 _ (List.mem_of_getElem? (i := 0) rfl)) hB9090
  refine e_lookB rfl trivial rfl (by show (baseOf v4122).block < _; omega) (same_agg (cs := [.int .i64 x9083.From, .int .i64 x9083.To, .string ⟨⟨x9083.Put.b⟩⟩]) (.cons trivial (.cons trivial (.cons trivial .nil)))) (o_lde (w := .agg #[.int .i64 x9083.From, .int .i64 x9083.To, .string ⟨⟨x9083.Put.b⟩⟩]) he9087 rfl (by kernel_rfl)) trivial ?_
  refine yq 2 [(46, .int .i64 a1), (45, v4122), (44, .agg #[.int .i64 x9083.From, .int .i64 x9083.To, .string ⟨⟨x9083.Put.b⟩⟩]), (40, .func (.func 31) #[] #[]), (12, .int .i64 (w64 (ishr .u64 (IntKind.wrap .u64 (w64 (x9070 + x9071))) 1))), (0, v4122), (1, .int .i64 a1), (4, .func (.func 31) #[] #[]), (10, .int .i64 x9070), (11, .int .i64 x9071)] ?_
  obtain ⟨hc9092, ho9067⟩ := chk ho9067
  refine e_val rfl trivial (o_index rfl rfl (by kernel_rfl : slTy _ _ = some (csz api_Edit)) (hS9080.gbased (j := 0) rfl (q4121.mono hS9073.zle) (by omega)) hc9092.1 hc9092.2) ?_
  obtain ⟨x9093, hx9094, ho9067⟩ := obind ho9067
  obtain ⟨cs9095, hc9096, he9097, ht9098⟩ := hS9080.gel (j := 0) rfl (q4121.mono hS9073.zle) (i := a1) hx9094
  obtain rfl := rc_api_Edit hc9096
  have ps9099 := pos_of hx9094
  have hB9100 := hS9080.gbased (j := 0) rfl (q4121.mono hS9073.zle) ps9099
  have lt9101 : (baseOf v4122).block < bs9078 := row_ltM (hlv9081.1 _ (List.mem_of_getElem? (i := 0) rfl)) hB9100
  refine e_lookB rfl trivial rfl (by show (baseOf v4122).block < _; omega) (same_agg (cs := [.int .i64 x9093.From, .int .i64 x9093.To, .string ⟨⟨x9093.Put.b⟩⟩]) (.cons trivial (.cons trivial (.cons trivial .nil)))) (o_lde (w := .agg #[.int .i64 x9093.From, .int .i64 x9093.To, .string ⟨⟨x9093.Put.b⟩⟩]) he9097 rfl (by kernel_rfl)) trivial ?_
  obtain ⟨r9102, hx9103, ho9067⟩ := obind ho9067
  have hSl9109 := hS9080.lown
  obtain ⟨v9104, h9105, hcl9106, hSc9107, rfl⟩ := edit_Choose_2_ok F hSl9109.inv  hx9103
  have hS9108 := St.call (A := []) (B := [.gs v4122 c4123 (csz api_Edit)]) hSl9109 hSc9107
  replace hS9108 : St _ _ _ _ _ _ [.gs v4122 c4123 (csz api_Edit)] := hS9108
  refine e_still rfl trivial hS9080 (o_call hcl9106 rfl rfl rfl) hS9108 (St.lowk hSc9107) ?_
  intro h9110 hS9111
  rcases ifs ho9067 with ⟨hp9112, ho9067⟩ | ⟨hp9112, ho9067⟩
  refine e_val rfl trivial (o_cmp rfl rfl (c_lss_T hp9112)) ?_
  refine yf [(50, .bool true), (12, .int .i64 (w64 (ishr .u64 (IntKind.wrap .u64 (w64 (x9070 + x9071))) 1))), (0, v4122), (1, .int .i64 a1), (4, .func (.func 31) #[] #[]), (10, .int .i64 x9070), (11, .int .i64 x9071)] ?_
  have hS9113 := hS9111.unres
  refine cT 50 rfl ?_
  refine rg r42_6 ?_
  refine xe 3 [(10, .int .i64 (w64 ((w64 (ishr .u64 (IntKind.wrap .u64 (w64 (x9070 + x9071))) 1)) + 1))), (0, v4122), (1, .int .i64 a1), (4, .func (.func 31) #[] #[]), (11, .int .i64 x9071)] ?_
  exact ⟨n9074, Nat.lt_succ_self _, ⟨_, w64 ((w64 (ishr .u64 (IntKind.wrap .u64 (w64 (x9070 + x9071))) 1)) + 1), x9071, ho9067, rfl, hS9113⟩⟩
  refine e_val rfl trivial (o_cmp rfl rfl (c_lss_F hp9112)) ?_
  refine yf [(50, .bool false), (12, .int .i64 (w64 (ishr .u64 (IntKind.wrap .u64 (w64 (x9070 + x9071))) 1))), (0, v4122), (1, .int .i64 a1), (4, .func (.func 31) #[] #[]), (10, .int .i64 x9070), (11, .int .i64 x9071)] ?_
  have hS9114 := hS9111.unres
  refine cF 50 rfl ?_
  refine rg r42_7 ?_
  refine xe 2 [(11, .int .i64 (w64 (ishr .u64 (IntKind.wrap .u64 (w64 (x9070 + x9071))) 1))), (0, v4122), (1, .int .i64 a1), (4, .func (.func 31) #[] #[]), (10, .int .i64 x9070)] ?_
  exact ⟨n9074, Nat.lt_succ_self _, ⟨_, x9070, w64 (ishr .u64 (IntKind.wrap .u64 (w64 (x9070 + x9071))) 1), ho9067, rfl, hS9114⟩⟩
  refine r_step rfl trivial (o_cmp rfl rfl (c_lss_F hp9077)) ?_
  refine xf [(33, .bool false), (0, v4122), (1, .int .i64 a1), (4, .func (.func 31) #[] #[]), (10, .int .i64 x9070), (11, .int .i64 x9071)] ?_
  refine cF 33 rfl ?_
  refine xt 0 ?_
  refine blkX_hit ?_
  obtain rfl := Option.some.inj ho9067
  exact ⟨_, x9070, rfl, rfl, hS9073⟩
  refine r_step rfl trivial (o_cmp rfl rfl (c_eql_F hp8764)) ?_
  refine xf [(28, .bool false), (0, v4122), (1, .int .i64 a1), (2, .int .i64 a2), (3, .int .i64 a3), (4, .func (.func 31) #[] #[])] ?_
  refine kF 28 rfl ?_
  refine sq ?_
  refine sr r42_12 ?_
  refine xq 3 [(79, .int .i64 (w64 (a3 - a2))), (0, v4122), (1, .int .i64 a1), (2, .int .i64 a2), (3, .int .i64 a3), (4, .func (.func 31) #[] #[])] ?_
  rcases ifs hm with ⟨hp9744, hm⟩ | ⟨hp9744, hm⟩
  refine r_step rfl trivial (o_cmp rfl rfl (c_eql_T hp9744)) ?_
  refine xf [(80, .bool true), (0, v4122), (1, .int .i64 a1), (2, .int .i64 a2), (3, .int .i64 a3), (4, .func (.func 31) #[] #[])] ?_
  refine cT 80 rfl ?_
  refine sr r42_13 ?_
  refine xe 2 [(14, .int .i64 a1), (0, v4122), (2, .int .i64 a2), (4, .func (.func 31) #[] #[])] ?_
  refine sr r42_14 ?_
  refine xe 2 [(15, .int .i64 a2), (14, .int .i64 a1), (0, v4122), (2, .int .i64 a2), (4, .func (.func 31) #[] #[])] ?_
  refine sq ?_
  obtain ⟨o10048, ho10047, hm⟩ := obind hm
  refine W_join [0, 2, 14] (fun l h => ∃ Z10096 : Zn, ∃ x10097 : Int, x10097 = o10048 ∧ l = [(0, v4122), (2, .int .i64 a2), (14, .int .i64 x10097)] ∧ St hs (idsL [.gs v4122 c4123 (csz api_Edit)]) Z (0, 0) Z10096 h [.gs v4122 c4123 (csz api_Edit)]) ?_ ?_
  rintro l h10098 ⟨Z10096, x10097, rfl, rfl, hS10099⟩
  try dsimp only at hm
  refine sq ?_
  refine sr r42_20 ?_
  refine xe 2 [(17, .int .i64 a2), (0, v4122), (14, .int .i64 x10097)] ?_
  obtain ⟨o10217, ho10216, hm⟩ := obind hm
  refine W_join [] (fun l h => ∃ Z10282 : Zn, ∃ x10283 : List api_Edit, ∃ c10285 : List Value, x10283 = o10217 ∧ RCs (α := api_Edit) Z10282 c10285 x10283 ∧ l = [] ∧ St hs (idsL [.gs v4122 c4123 (csz api_Edit)]) Z (0, 0) Z10282 h [.gs v4122 c10285 (csz api_Edit)]) ?_ ?_
  rintro l h10286 ⟨Z10282, x10283, c10285, rfl, q10284, rfl, hS10287⟩
  try dsimp only at hm
  refine rt ?_
  refine ⟨rfl, ?_⟩
  obtain rfl := Option.some.inj hm
  refine ⟨_, _, _, ResL.nil, hS10287, ?_⟩
  exact ⟨c10285, rfl, rfl, q10284⟩
  refine bk 6 ?_
  refine lp [0, 14, 17] (fun n l h => ∃ Z10218 : Zn, ∃ x10219 : List api_Edit, ∃ x10222 : Int, ∃ x10223 : Int, ∃ c10221 : List Value, slices_symMergeCmpFunc_api_Edit_l3 F rec_slices_symMergeCmpFunc_api_Edit a0 a1 a2 a3 n x10219 x10222 x10223 = some o10217 ∧ RCs (α := api_Edit) Z10218 c10221 x10219 ∧ l = [(0, v4122), (14, .int .i64 x10222), (17, .int .i64 x10223)] ∧ St hs (idsL [.gs v4122 c4123 (csz api_Edit)]) Z (0, 0) Z10218 h [.gs v4122 c10221 (csz api_Edit)]) F ⟨_, a0, x10097, a2, c4123, ho10216, (q4121.mono hS10099.zle), rfl, hS10099⟩ ?_
  rintro n10226 l h10224 ⟨Z10218, x10219, x10222, x10223, c10221, ho10216, q10220, rfl, hS10225⟩
  rcases n10226 with _ | n10226
  cases (show none = some o10217 from ho10216)
  rw [slices_symMergeCmpFunc_api_Edit_l3] at ho10216
  refine sq ?_
  refine sr r42_21 ?_
  refine xq 2 [(109, .int .i64 x10222), (108, .int .i64 x10223), (0, v4122), (14, .int .i64 x10222), (17, .int .i64 x10223)] ?_
  rcases ifs ho10216 with ⟨hp10229, ho10216⟩ | ⟨hp10229, ho10216⟩
  refine r_step rfl trivial (o_cmp rfl rfl (c_gtr_T hp10229)) ?_
  refine xf [(110, .bool true), (0, v4122), (14, .int .i64 x10222), (17, .int .i64 x10223)] ?_
  refine kT 110 rfl ?_
  refine sq ?_
  refine bk 7 ?_
  refine rgF r42_23 hS10225 ?_
  intro bs10230 h10231 hlv10233 hS10232
  refine yq 8 [(120, .int .i64 (w64 (x10223 - 1))), (118, v4122), (117, .int .i64 (w64 (x10223 - 1))), (115, v4122), (114, .int .i64 x10223), (113, v4122), (0, v4122), (14, .int .i64 x10222), (17, .int .i64 x10223)] ?_
  obtain ⟨hc10234, ho10216⟩ := chk ho10216
  refine e_val rfl trivial (o_index rfl rfl (by kernel_rfl : slTy _ _ = some (csz api_Edit)) (hS10232.gbased (j := 0) rfl q10220 (by omega)) hc10234.1 hc10234.2) ?_
  obtain ⟨x10235, hx10236, ho10216⟩ := obind ho10216
  obtain ⟨cs10237, hc10238, he10239, ht10240⟩ := hS10232.gel (j := 0) rfl q10220 (i := w64 (x10223 - 1)) hx10236
  obtain rfl := rc_api_Edit hc10238
  have ps10241 := pos_of hx10236
  have hB10242 := hS10232.gbased (j := 0) rfl q10220 ps10241
  have lt10243 : (baseOf v4122).block < bs10230 := row_ltM (hlv10233.1 _ (List.mem_of_getElem? (i := 0) rfl)) hB10242
  refine e_lookB rfl trivial rfl (by show (baseOf v4122).block < _; omega) (same_agg (cs := [.int .i64 x10235.From, .int .i64 x10235.To, .string ⟨⟨x10235.Put.b⟩⟩]) (.cons trivial (.cons trivial (.cons trivial .nil)))) (o_lde (w := .agg #[.int .i64 x10235.From, .int .i64 x10235.To, .string ⟨⟨x10235.Put.b⟩⟩]) he10239 rfl (by kernel_rfl)) trivial ?_
  refine yq 2 [(124, .int .i64 x10223), (123, v4122), (122, .agg #[.int .i64 x10235.From, .int .i64 x10235.To, .string ⟨⟨x10235.Put.b⟩⟩]), (117, .int .i64 (w64 (x10223 - 1))), (115, v4122), (114, .int .i64 x10223), (113, v4122), (0, v4122), (14, .int .i64 x10222), (17, .int .i64 x10223)] ?_
  obtain ⟨hc10244, ho10216⟩ := chk ho10216
  refine e_val rfl trivial (o_index rfl rfl (by kernel_rfl : slTy _ _ = some (csz api_Edit)) (hS10232.gbased (j := 0) rfl q10220 (by omega)) hc10244.1 hc10244.2) ?_
  obtain ⟨x10245, hx10246, ho10216⟩ := obind ho10216
  obtain ⟨cs10247, hc10248, he10249, ht10250⟩ := hS10232.gel (j := 0) rfl q10220 (i := x10223) hx10246
  obtain rfl := rc_api_Edit hc10248
  have ps10251 := pos_of hx10246
  have hB10252 := hS10232.gbased (j := 0) rfl q10220 ps10251
  have lt10253 : (baseOf v4122).block < bs10230 := row_ltM (hlv10233.1 _ (List.mem_of_getElem? (i := 0) rfl)) hB10252
  refine e_lookB rfl trivial rfl (by show (baseOf v4122).block < _; omega) (same_agg (cs := [.int .i64 x10245.From, .int .i64 x10245.To, .string ⟨⟨x10245.Put.b⟩⟩]) (.cons trivial (.cons trivial (.cons trivial .nil)))) (o_lde (w := .agg #[.int .i64 x10245.From, .int .i64 x10245.To, .string ⟨⟨x10245.Put.b⟩⟩]) he10249 rfl (by kernel_rfl)) trivial ?_
  obtain ⟨hc10254, ho10216⟩ := chk ho10216
  refine e_val rfl trivial (o_index rfl rfl (by kernel_rfl : slTy _ _ = some (csz api_Edit)) (hS10232.gbased (j := 0) rfl q10220 (by omega)) hc10254.1 hc10254.2) ?_
  obtain ⟨x10255, hx10256, ho10216⟩ := obind ho10216
  obtain ⟨cs10257, hc10258, he10259, ht10260⟩ := hS10232.gel (j := 0) rfl q10220 (i := x10223) hx10256
  obtain rfl := rc_api_Edit hc10258
  have hF10265 : St _ _ _ _ _ _ ([.gs v4122 c10221 (csz api_Edit)] ++ []) := (hS10232.front 0 rfl)
  refine e_mk2 rfl trivial hF10265 (o_ste (u' := x10235) (vs := [.int .i64 x10235.From, .int .i64 x10235.To, .string ⟨⟨x10235.Put.b⟩⟩]) (cs' := [.int .i64 x10235.From, .int .i64 x10235.To, .string ⟨⟨x10235.Put.b⟩⟩]) hF10265.sub (m := 0) rfl q10220 hx10256 ht10260 rfl rfl rfl (by kernel_rfl) rfl rfl rfl rfl) (Zle.refl _) (.drop (by decide) (.drop (by decide) .nil)) ?_
  rintro h10261 c10262 ⟨q10264, hS10263⟩
  replace hS10263 : St _ _ _ _ _ _ [.gs v4122 c10262 (csz api_Edit)] := hS10263
  obtain ⟨hc10266, ho10216⟩ := chk ho10216
  refine e_val rfl trivial (o_index rfl rfl (by kernel_rfl : slTy _ _ = some (csz api_Edit)) (hS10263.gbased (j := 0) rfl q10264 (by omega)) hc10266.1 hc10266.2) ?_
  obtain ⟨x10267, hx10268, ho10216⟩ := obind ho10216
  obtain ⟨cs10269, hc10270, he10271, ht10272⟩ := hS10263.gel (j := 0) rfl q10264 (i := w64 (x10223 - 1)) hx10268
  obtain rfl := rc_api_Edit hc10270
  have hF10277 : St _ _ _ _ _ _ ([.gs v4122 c10262 (csz api_Edit)] ++ []) := (hS10263.front 0 rfl)
  refine e_mk2 rfl trivial hF10277 (o_ste (u' := x10245) (vs := [.int .i64 x10245.From, .int .i64 x10245.To, .string ⟨⟨x10245.Put.b⟩⟩]) (cs' := [.int .i64 x10245.From, .int .i64 x10245.To, .string ⟨⟨x10245.Put.b⟩⟩]) hF10277.sub (m := 0) rfl q10264 hx10268 ht10272 rfl rfl rfl (by kernel_rfl) rfl rfl rfl rfl) (Zle.refl _) (.drop (by decide) (.drop (by decide) .nil)) ?_
  rintro h10273 c10274 ⟨q10276, hS10275⟩
  replace hS10275 : St _ _ _ _ _ _ [.gs v4122 c10274 (csz api_Edit)] := hS10275
  refine yf [(0, v4122), (14, .int .i64 x10222), (17, .int .i64 x10223)] ?_
  have hS10278 := hS10275.unres
  refine rg r42_22 ?_
  refine xe 3 [(17, .int .i64 (w64 (x10223 - 1))), (0, v4122), (14, .int .i64 x10222)] ?_
  exact ⟨n10226, Nat.lt_succ_self _, ⟨_, (x10219.set x10223.toNat x10235).set (w64 (x10223 - 1)).toNat x10245, x10222, w64 (x10223 - 1), c10274, ho10216, q10276, rfl, hS10278⟩⟩
  refine r_step rfl trivial (o_cmp rfl rfl (c_gtr_F hp10229)) ?_
  refine xf [(110, .bool false), (0, v4122), (14, .int .i64 x10222), (17, .int .i64 x10223)] ?_
  refine cF 110 rfl ?_
  refine xt 6 ?_
  refine blkX_hit ?_
  obtain rfl := Option.some.inj ho10216
  exact ⟨_, x10219, c10221, rfl, q10220, rfl, hS10225⟩
  refine bk 4 ?_
  refine lp [0, 2, 4, 14, 15] (fun n l h => ∃ Z10049 : Zn, ∃ x10050 : Int, ∃ x10051 : Int, slices_symMergeCmpFunc_api_Edit_l2 F rec_slices_symMergeCmpFunc_api_Edit a0 a1 a2 a3 n x10050 x10051 = some o10048 ∧ l = [(0, v4122), (2, .int .i64 a2), (4, .func (.func 31) #[] #[]), (14, .int .i64 x10050), (15, .int .i64 x10051)] ∧ St hs (idsL [.gs v4122 c4123 (csz api_Edit)]) Z (0, 0) Z10049 h [.gs v4122 c4123 (csz api_Edit)]) F ⟨_, a1, a2, ho10047, rfl, hS⟩ ?_
  rintro n10054 l h10052 ⟨Z10049, x10050, x10051, ho10047, rfl, hS10053⟩
  rcases n10054 with _ | n10054
  cases (show none = some o10048 from ho10047)
  rw [slices_symMergeCmpFunc_api_Edit_l2] at ho10047
  refine sq ?_
  refine sr r42_15 ?_
  refine xq 2 [(84, .int .i64 x10051), (83, .int .i64 x10050), (0, v4122), (2, .int .i64 a2), (4, .func (.func 31) #[] #[]), (14, .int .i64 x10050), (15, .int .i64 x10051)] ?_
  rcases ifs ho10047 with ⟨hp10057, ho10047⟩ | ⟨hp10057, ho10047⟩
  refine r_step rfl trivial (o_cmp rfl rfl (c_lss_T hp10057)) ?_
  refine xf [(85, .bool true), (0, v4122), (2, .int .i64 a2), (4, .func (.func 31) #[] #[]), (14, .int .i64 x10050), (15, .int .i64 x10051)] ?_
  refine kT 85 rfl ?_
  refine bk 5 ?_
  refine sr r42_16 ?_
  refine xq 3 [(88, .int .i64 (w64 (x10050 + x10051))), (0, v4122), (2, .int .i64 a2), (4, .func (.func 31) #[] #[]), (14, .int .i64 x10050), (15, .int .i64 x10051)] ?_
  refine r_step rfl trivial (o_conv (k := .u64) (n := w64 (x10050 + x10051)) rfl (by kernel_rfl)) ?_
  refine xq 1 [(90, .int .u64 (ishr .u64 (IntKind.wrap .u64 (w64 (x10050 + x10051))) 1)), (0, v4122), (2, .int .i64 a2), (4, .func (.func 31) #[] #[]), (14, .int .i64 x10050), (15, .int .i64 x10051)] ?_
  refine r_step rfl trivial (o_conv (k := .i64) (n := ishr .u64 (IntKind.wrap .u64 (w64 (x10050 + x10051))) 1) rfl (by kernel_rfl)) ?_
  refine xe 1 [(16, .int .i64 (w64 (ishr .u64 (IntKind.wrap .u64 (w64 (x10050 + x10051))) 1))), (0, v4122), (2, .int .i64 a2), (4, .func (.func 31) #[] #[]), (14, .int .i64 x10050), (15, .int .i64 x10051)] ?_
  refine srF r42_17 hS10053 ?_
  intro bs10058 h10059 hlv10061 hS10060
  refine yq 3 [(94, .int .i64 a2), (93, v4122), (92, .func (.func 31) #[] #[]), (16, .int .i64 (w64 (ishr .u64 (IntKind.wrap .u64 (w64 (x10050 + x10051))) 1))), (0, v4122), (2, .int .i64 a2), (4, .func (.func 31) #[] #[]), (14, .int .i64 x10050), (15, .int .i64 x10051)] ?_
  obtain ⟨hc10062, ho10047⟩ := chk ho10047
  refine e_val rfl trivial (o_index rfl rfl (by kernel_rfl : slTy _ _ = some (csz api_Edit)) (hS10060.gbased (j := 0) rfl (q4121.mono hS10053.zle) (by omega)) hc10062.1 hc10062.2) ?_
  obtain ⟨x10063, hx10064, ho10047⟩ := obind ho10047
  obtain ⟨cs10065, hc10066, he10067, ht10068⟩ := hS10060.gel (j := 0) rfl (q4121.mono hS10053.zle) (i := a2) hx10064
  obtain rfl := rc_api_Edit hc10066
  have ps10069 := pos_of hx10064
  have hB10070 := hS10060.gbased (j := 0) rfl (q4121.mono hS10053.zle) ps10069
  have lt10071 : (baseOf v4122).block < bs10058 := row_ltM (hlv10061.1 _ (List.mem_of_getElem? (i := 0) rfl)) hB10070
  refine e_lookB rfl trivial rfl (by show (baseOf v4122).block < _; omega) (same_agg (cs := [.int .i64 x10063.From, .int .i64 x10063.To, .string ⟨⟨x10063.Put.b⟩⟩]) (.cons trivial (.cons trivial (.cons trivial .nil)))) (o_lde (w := .agg #[.int .i64 x10063.From, .int .i64 x10063.To, .string ⟨⟨x10063.Put.b⟩⟩]) he10067 rfl (by kernel_rfl)) trivial ?_
  refine yq 2 [(98, .int .i64 (w64 (ishr .u64 (IntKind.wrap .u64 (w64 (x10050 + x10051))) 1))), (97, v4122), (96, .agg #[.int .i64 x10063.From, .int .i64 x10063.To, .string ⟨⟨x10063.Put.b⟩⟩]), (92, .func (.func 31) #[] #[]), (16, .int .i64 (w64 (ishr .u64 (IntKind.wrap .u64 (w64 (x10050 + x10051))) 1))), (0, v4122), (2, .int .i64 a2), (4, .func (.func 31) #[] #[]), (14, .int .i64 x10050), (15, .int .i64 x10051)] ?_
  obtain ⟨hc10072, ho10047⟩ := chk ho10047
  refine e_val rfl trivial (o_index rfl rfl (by kernel_rfl : slTy _ _ = some (csz api_Edit)) (hS10060.gbased (j := 0) rfl (q4121.mono hS10053.zle) (by omega)) hc10072.1 hc10072.2) ?_
  obtain ⟨x10073, hx10074, ho10047⟩ := obind ho10047
  obtain ⟨cs10075, hc10076, he10077, ht10078⟩ := hS10060.gel (j := 0) rfl (q4121.mono hS10053.zle) (i := w64 (ishr .u64 (IntKind.wrap .u64 (w64 (x10050 + x10051))) 1)) hx10074
  obtain rfl := rc_api_Edit hc10076
  have ps10079 := pos_of hx10074
  have hB10080 := hS10060.gbased (j := 0) rfl (q4121.mono hS10053.zle) ps10079
  have lt10081 : (baseOf v4122).block < bs10058 := row_ltM (hlv10061.1 _ (List.mem_of_getElem? (i := 0) rfl)) hB10080
  refine e_lookB rfl trivial rfl (by show (baseOf v4122).block < _; omega) (same_agg (cs := [.int .i64 x10073.From, .int .i64 x10073.To, .string ⟨⟨x10073.Put.b⟩⟩]) (.cons trivial (.cons trivial (.cons trivial .nil)))) (o_lde (w := .agg #[.int .i64 x10073.From, .int .i64 x10073.To, .string ⟨⟨x10073.Put.b⟩⟩]) he10077 rfl (by kernel_rfl)) trivial ?_
  obtain ⟨r10082, hx10083, ho10047⟩ := obind ho10047
  have hSl10089 := hS10060.lown
  obtain ⟨v10084, h10085, hcl10086, hSc10087, rfl⟩ := edit_Choose_2_ok F hSl10089.inv  hx10083
  have hS10088 := St.call (A := []) (B := [.gs v4122 c4123 (csz api_Edit)]) hSl10089 hSc10087
  replace hS10088 : St _ _ _ _ _ _ [.gs v4122 c4123 (csz api_Edit)] := hS10088
  refine e_still rfl trivial hS10060 (o_call hcl10086 rfl rfl rfl) hS10088 (St.lowk hSc10087) ?_
  intro h10090 hS10091
  rcases ifs ho10047 with ⟨hp10092, ho10047⟩ | ⟨hp10092, ho10047⟩
  refine e_val rfl trivial (o_cmp rfl rfl (c_lss_T hp10092)) ?_
  refine ye 1 [(103, .bool false), (16, .int .i64 (w64 (ishr .u64 (IntKind.wrap .u64 (w64 (x10050 + x10051))) 1))), (0, v4122), (2, .int .i64 a2), (4, .func (.func 31) #[] #[]), (14, .int .i64 x10050), (15, .int .i64 x10051)] ?_
  have hS10093 := hS10091.unres
  refine cF 103 rfl ?_
  refine rg r42_19 ?_
  refine xe 2 [(15, .int .i64 (w64 (ishr .u64 (IntKind.wrap .u64 (w64 (x10050 + x10051))) 1))), (0, v4122), (2, .int .i64 a2), (4, .func (.func 31) #[] #[]), (14, .int .i64 x10050)] ?_
  exact ⟨n10054, Nat.lt_succ_self _, ⟨_, x10050, w64 (ishr .u64 (IntKind.wrap .u64 (w64 (x10050 + x10051))) 1), ho10047, rfl, hS10093⟩⟩
  refine e_val rfl trivial (o_cmp rfl rfl (c_lss_F hp10092)) ?_
  refine ye 1 [(103, .bool true), (16, .int .i64 (w64 (ishr .u64 (IntKind.wrap .u64 (w64 (x10050 + x10051))) 1))), (0, v4122), (2, .int .i64 a2), (4, .func (.func 31) #[] #[]), (14, .int .i64 x10050), (15, .int .i64 x10051)] ?_
  have hS10094 := hS10091.unres
  refine cT 103 rfl ?_
  refine rg r42_18 ?_
  refine xe 3 [(14, .int .i64 (w64 ((w64 (ishr .u64 (IntKind.wrap .u64 (w64 (x10050 + x10051))) 1)) + 1))), (0, v4122), (2, .int .i64 a2), (4, .func (.func 31) #[] #[]), (15, .int .i64 x10051)] ?_
  exact ⟨n10054, Nat.lt_succ_self _, ⟨_, w64 ((w64 (ishr .u64 (IntKind.wrap .u64 (w64 (x10050 + x10051))) 1)) + 1), x10051, ho10047, rfl, hS10094⟩⟩
  refine r_step rfl trivial (o_cmp rfl rfl (c_lss_F hp10057)) ?_
  refine xf [(85, .bool false), (0, v4122), (2, .int .i64 a2), (4, .func (.func 31) #[] #[]), (14, .int .i64 x10050), (15, .int .i64 x10051)] ?_
  refine cF 85 rfl ?_
  refine xt 4 ?_
  refine blkX_hit ?_
  obtain rfl := Option.some.inj ho10047
  exact ⟨_, x10050, rfl, rfl, hS10053⟩
  refine r_step rfl trivial (o_cmp rfl rfl (c_eql_F hp9744)) ?_
  refine xf [(80, .bool false), (0, v4122), (1, .int .i64 a1), (2, .int .i64 a2), (3, .int .i64 a3), (4, .func (.func 31) #[] #[])] ?_
  refine kF 80 rfl ?_
  refine sr r42_24 ?_
  refine xq 3 [(131, .int .i64 (w64 (a1 + a3))), (0, v4122), (1, .int .i64 a1), (2, .int .i64 a2), (3, .int .i64 a3), (4, .func (.func 31) #[] #[])] ?_
  refine r_step rfl trivial (o_conv (k := .u64) (n := w64 (a1 + a3)) rfl (by kernel_rfl)) ?_
  refine xq 1 [(133, .int .u64 (ishr .u64 (IntKind.wrap .u64 (w64 (a1 + a3))) 1)), (0, v4122), (1, .int .i64 a1), (2, .int .i64 a2), (3, .int .i64 a3), (4, .func (.func 31) #[] #[])] ?_
  refine r_step rfl trivial (o_conv (k := .i64) (n := ishr .u64 (IntKind.wrap .u64 (w64 (a1 + a3))) 1) rfl (by kernel_rfl)) ?_
  refine xe 1 [(18, .int .i64 (w64 (ishr .u64 (IntKind.wrap .u64 (w64 (a1 + a3))) 1))), (0, v4122), (1, .int .i64 a1), (2, .int .i64 a2), (3, .int .i64 a3), (4, .func (.func 31) #[] #[])] ?_
  refine sr r42_25 ?_
  refine xe 4 [(19, .int .i64 (w64 ((w64 (ishr .u64 (IntKind.wrap .u64 (w64 (a1 + a3))) 1)) + a2))), (18, .int .i64 (w64 (ishr .u64 (IntKind.wrap .u64 (w64 (a1 + a3))) 1))), (0, v4122), (1, .int .i64 a1), (2, .int .i64 a2), (3, .int .i64 a3), (4, .func (.func 31) #[] #[])] ?_
  refine sr r42_26 ?_
  refine xe 2 [(19, .int .i64 (w64 ((w64 (ishr .u64 (IntKind.wrap .u64 (w64 (a1 + a3))) 1)) + a2))), (18, .int .i64 (w64 (ishr .u64 (IntKind.wrap .u64 (w64 (a1 + a3))) 1))), (0, v4122), (1, .int .i64 a1), (2, .int .i64 a2), (3, .int .i64 a3), (4, .func (.func 31) #[] #[])] ?_
  refine sq ?_
  obtain ⟨o10294, ho10293, hm⟩ := obind hm
  refine W_join [0, 1, 2, 3, 4, 18, 19, 20, 21] (fun l h => ∃ Z10296 : Zn, ∃ x10297 : Int, ∃ x10298 : Int, (x10297, x10298) = o10294 ∧ l = [(0, v4122), (1, .int .i64 a1), (2, .int .i64 a2), (3, .int .i64 a3), (4, .func (.func 31) #[] #[]), (18, .int .i64 (w64 (ishr .u64 (IntKind.wrap .u64 (w64 (a1 + a3))) 1))), (19, .int .i64 (w64 ((w64 (ishr .u64 (IntKind.wrap .u64 (w64 (a1 + a3))) 1)) + a2))), (20, .int .i64 x10297), (21, .int .i64 x10298)] ∧ St hs (idsL [.gs v4122 c4123 (csz api_Edit)]) Z (0, 0) Z10296 h [.gs v4122 c4123 (csz api_Edit)]) ?_ ?_
  rintro l h10299 ⟨Z10296, x10297, x10298, rfl, rfl, hS10300⟩
  try dsimp only at hm
  refine sr r42_32 ?_
  refine xe 3 [(22, .int .i64 (w64 ((w64 ((w64 (ishr .u64 (IntKind.wrap .u64 (w64 (a1 + a3))) 1)) + a2)) - 1))), (0, v4122), (1, .int .i64 a1), (2, .int .i64 a2), (3, .int .i64 a3), (4, .func (.func 31) #[] #[]), (18, .int .i64 (w64 (ishr .u64 (IntKind.wrap .u64 (w64 (a1 + a3))) 1))), (19, .int .i64 (w64 ((w64 (ishr .u64 (IntKind.wrap .u64 (w64 (a1 + a3))) 1)) + a2))), (20, .int .i64 x10297), (21, .int .i64 x10298)] ?_
  refine sq ?_
  obtain ⟨o10350, ho10349, hm⟩ := obind hm
  refine W_join [0, 1, 2, 3, 4, 18, 19, 20] (fun l h => ∃ Z10403 : Zn, ∃ x10404 : Int, ∃ x10405 : Int, ∃ x10406 : Int, (x10404, x10405, x10406) = o10350 ∧ l = [(0, v4122), (1, .int .i64 a1), (2, .int .i64 a2), (3, .int .i64 a3), (4, .func (.func 31) #[] #[]), (18, .int .i64 x10404), (19, .int .i64 x10405), (20, .int .i64 x10406)] ∧ St hs (idsL [.gs v4122 c4123 (csz api_Edit)]) Z (0, 0) Z10403 h [.gs v4122 c4123 (csz api_Edit)]) ?_ ?_
  rintro l h10407 ⟨Z10403, x10404, x10405, x10406, rfl, rfl, hS10408⟩
  try dsimp only at hm
  refine sr r42_38 ?_
  refine xe 4 [(24, .int .i64 (w64 (x10405 - x10406))), (0, v4122), (1, .int .i64 a1), (2, .int .i64 a2), (3, .int .i64 a3), (4, .func (.func 31) #[] #[]), (18, .int .i64 x10404), (20, .int .i64 x10406)] ?_
  refine sq ?_
  obtain ⟨o10425, ho10424, hm⟩ := obind hm
  refine W_join [0, 1, 3, 4, 18, 20, 24] (fun l h => ∃ Z10441 : Zn, ∃ x10442 : List api_Edit, ∃ c10444 : List Value, x10442 = o10425 ∧ RCs (α := api_Edit) Z10441 c10444 x10442 ∧ l = [(0, v4122), (1, .int .i64 a1), (3, .int .i64 a3), (4, .func (.func 31) #[] #[]), (18, .int .i64 x10404), (20, .int .i64 x10406), (24, .int .i64 (w64 (x10405 - x10406)))] ∧ St hs (idsL [.gs v4122 c4123 (csz api_Edit)]) Z (0, 0) Z10441 h [.gs v4122 c10444 (csz api_Edit)]) ?_ ?_
  rintro l h10445 ⟨Z10441, x10442, c10444, rfl, q10443, rfl, hS10446⟩
  try dsimp only at hm
  refine sq ?_
  obtain ⟨o10463, ho10462, hm⟩ := obind hm
  refine W_join [0, 3, 4, 18, 24] (fun l h => ∃ Z10479 : Zn, ∃ x10480 : List api_Edit, ∃ c10482 : List Value, x10480 = o10463 ∧ RCs (α := api_Edit) Z10479 c10482 x10480 ∧ l = [(0, v4122), (3, .int .i64 a3), (4, .func (.func 31) #[] #[]), (18, .int .i64 x10404), (24, .int .i64 (w64 (x10405 - x10406)))] ∧ St hs (idsL [.gs v4122 c4123 (csz api_Edit)]) Z (0, 0) Z10479 h [.gs v4122 c10482 (csz api_Edit)]) ?_ ?_
  rintro l h10483 ⟨Z10479, x10480, c10482, rfl, q10481, rfl, hS10484⟩
  try dsimp only at hm
  refine sr r42_43 ?_
  refine xq 2 [(207, .int .i64 (w64 (x10405 - x10406))), (206, .int .i64 x10404), (0, v4122), (3, .int .i64 a3), (4, .func (.func 31) #[] #[]), (18, .int .i64 x10404), (24, .int .i64 (w64 (x10405 - x10406)))] ?_
  rcases ifs hm with ⟨hp10485, hm⟩ | ⟨hp10485, hm⟩
  refine r_step rfl trivial (o_cmp rfl rfl (c_lss_T hp10485)) ?_
  refine xq 3 [(211, .int .i64 a3), (210, .int .i64 (w64 (x10405 - x10406))), (209, .bool true), (0, v4122), (3, .int .i64 a3), (4, .func (.func 31) #[] #[]), (18, .int .i64 x10404), (24, .int .i64 (w64 (x10405 - x10406)))] ?_
  rcases ifs hm with ⟨hp10486, hm⟩ | ⟨hp10486, hm⟩
  refine r_step rfl rfl (o_cmp rfl rfl (c_lss_T hp10486)) ?_
  refine xe 1 [(213, .bool true), (0, v4122), (3, .int .i64 a3), (4, .func (.func 31) #[] #[]), (18, .int .i64 x10404), (24, .int .i64 (w64 (x10405 - x10406)))] ?_
  refine cT 213 rfl ?_
  refine rg r42_44 ?_
  refine xq 5 [(218, .func (.func 31) #[] #[]), (217, .int .i64 a3), (216, .int .i64 (w64 (x10405 - x10406))), (215, .int .i64 x10404), (214, v4122)] ?_
  obtain ⟨r10487, hx10488, hm⟩ := obind hm
  have hF10494 : St _ _ _ _ _ _ ([.gs v4122 c10482 (csz api_Edit)] ++ []) := (hS10484.front 0 rfl)
  obtain ⟨v10489, h10490, Z10495, A10497, hcl10491, hSc10492, c10499, rfl, rfl, q10498⟩ := hrec_slices_symMergeCmpFunc_api_Edit hF10494.preL q10481 hx10488
  have hZ10496 := hSc10492.zle
  have hS10493 := hF10494.call hSc10492
  replace hS10493 : St _ _ _ _ _ _ [.gs v4122 c10499 (csz api_Edit)] := hS10493
  refine r_step rfl trivial (o_call hcl10491 rfl rfl rfl) ?_
  refine xf [] ?_
  obtain rfl := Option.some.inj hm
  refine ⟨_, _, _, ResL.nil, hS10493, ?_⟩
  exact ⟨c10499, rfl, rfl, q10498⟩
  refine r_step rfl rfl (o_cmp rfl rfl (c_lss_F hp10486)) ?_
  refine xe 1 [(213, .bool false), (0, v4122), (3, .int .i64 a3), (4, .func (.func 31) #[] #[]), (18, .int .i64 x10404), (24, .int .i64 (w64 (x10405 - x10406)))] ?_
  refine kF 213 rfl ?_
  obtain rfl := Option.some.inj hm
  refine ⟨_, _, _, ResL.nil, hS10484, ?_⟩
  exact ⟨c10482, rfl, rfl, q10481⟩
  refine r_step rfl trivial (o_cmp rfl rfl (c_lss_F hp10485)) ?_
  refine xe 5 [(213, .bool false), (0, v4122), (3, .int .i64 a3), (4, .func (.func 31) #[] #[]), (18, .int .i64 x10404), (24, .int .i64 (w64 (x10405 - x10406)))] ?_
  refine kF 213 rfl ?_
  obtain rfl := Option.some.inj hm
  refine ⟨_, _, _, ResL.nil, hS10484, ?_⟩
  exact ⟨c10482, rfl, rfl, q10481⟩
  refine sr r42_41 ?_
  refine xq 2 [(193, .int .i64 x10406), (192, .int .i64 a1), (0, v4122), (1, .int .i64 a1), (3, .int .i64 a3), (4, .func (.func 31) #[] #[]), (18, .int .i64 x10404), (20, .int .i64 x10406), (24, .int .i64 (w64 (x10405 - x10406)))] ?_
  rcases ifs ho10462 with ⟨hp10464, ho10462⟩ | ⟨hp10464, ho10462⟩
  refine r_step rfl trivial (o_cmp rfl rfl (c_lss_T hp10464)) ?_
  refine xq 3 [(197, .int .i64 x10404), (196, .int .i64 x10406), (195, .bool true), (0, v4122), (1, .int .i64 a1), (3, .int .i64 a3), (4, .func (.func 31) #[] #[]), (18, .int .i64 x10404), (20, .int .i64 x10406), (24, .int .i64 (w64 (x10405 - x10406)))] ?_
  rcases ifs ho10462 with ⟨hp10465, ho10462⟩ | ⟨hp10465, ho10462⟩
  refine r_step rfl rfl (o_cmp rfl rfl (c_lss_T hp10465)) ?_
  refine xe 1 [(199, .bool true), (0, v4122), (1, .int .i64 a1), (3, .int .i64 a3), (4, .func (.func 31) #[] #[]), (18, .int .i64 x10404), (20, .int .i64 x10406), (24, .int .i64 (w64 (x10405 - x10406)))] ?_
  refine cT 199 rfl ?_
  refine rg r42_42 ?_
  refine xq 5 [(204, .func (.func 31) #[] #[]), (203, .int .i64 x10404), (202, .int .i64 x10406), (201, .int .i64 a1), (200, v4122), (0, v4122), (3, .int .i64 a3), (4, .func (.func 31) #[] #[]), (18, .int .i64 x10404), (24, .int .i64 (w64 (x10405 - x10406)))] ?_
  obtain ⟨r10466, hx10467, ho10462⟩ := obind ho10462
  have hF10473 : St _ _ _ _ _ _ ([.gs v4122 c10444 (csz api_Edit)] ++ []) := (hS10446.front 0 rfl)
  obtain ⟨v10468, h10469, Z10474, A10476, hcl10470, hSc10471, c10478, rfl, rfl, q10477⟩ := hrec_slices_symMergeCmpFunc_api_Edit hF10473.preL q10443 hx10467
  have hZ10475 := hSc10471.zle
  have hS10472 := hF10473.call hSc10471
  replace hS10472 : St _ _ _ _ _ _ [.gs v4122 c10478 (csz api_Edit)] := hS10472
  refine r_step rfl trivial (o_call hcl10470 rfl rfl rfl) ?_
  refine xf [(0, v4122), (3, .int .i64 a3), (4, .func (.func 31) #[] #[]), (18, .int .i64 x10404), (24, .int .i64 (w64 (x10405 - x10406)))] ?_
  obtain rfl := Option.some.inj ho10462
  exact ⟨_, r10466, c10478, rfl, q10477, rfl, hS10472⟩
  refine r_step rfl rfl (o_cmp rfl rfl (c_lss_F hp10465)) ?_
  refine xe 1 [(199, .bool false), (0, v4122), (1, .int .i64 a1), (3, .int .i64 a3), (4, .func (.func 31) #[] #[]), (18, .int .i64 x10404), (20, .int .i64 x10406), (24, .int .i64 (w64 (x10405 - x10406)))] ?_
  refine kF 199 rfl ?_
  obtain rfl := Option.some.inj ho10462
  exact ⟨_, x10442, c10444, rfl, q10443, rfl, hS10446⟩
  refine r_step rfl trivial (o_cmp rfl rfl (c_lss_F hp10464)) ?_
  refine xe 5 [(199, .bool false), (0, v4122), (1, .int .i64 a1), (3, .int .i64 a3), (4, .func (.func 31) #[] #[]), (18, .int .i64 x10404), (20, .int .i64 x10406), (24, .int .i64 (w64 (x10405 - x10406)))] ?_
  refine kF 199 rfl ?_
  obtain rfl := Option.some.inj ho10462
  exact ⟨_, x10442, c10444, rfl, q10443, rfl, hS10446⟩
  refine sr r42_39 ?_
  refine xq 2 [(179, .int .i64 a2), (178, .int .i64 x10406), (24, .int .i64 (w64 (x10405 - x10406))), (0, v4122), (1, .int .i64 a1), (2, .int .i64 a2), (3, .int .i64 a3), (4, .func (.func 31) #[] #[]), (18, .int .i64 x10404), (20, .int .i64 x10406)] ?_
  rcases ifs ho10424 with ⟨hp10426, ho10424⟩ | ⟨hp10426, ho10424⟩
  refine r_step rfl trivial (o_cmp rfl rfl (c_lss_T hp10426)) ?_
  refine xq 3 [(183, .int .i64 (w64 (x10405 - x10406))), (182, .int .i64 a2), (181, .bool true), (24, .int .i64 (w64 (x10405 - x10406))), (0, v4122), (1, .int .i64 a1), (2, .int .i64 a2), (3, .int .i64 a3), (4, .func (.func 31) #[] #[]), (18, .int .i64 x10404), (20, .int .i64 x10406)] ?_
  rcases ifs ho10424 with ⟨hp10427, ho10424⟩ | ⟨hp10427, ho10424⟩
  refine r_step rfl rfl (o_cmp rfl rfl (c_lss_T hp10427)) ?_
  refine xe 1 [(185, .bool true), (24, .int .i64 (w64 (x10405 - x10406))), (0, v4122), (1, .int .i64 a1), (2, .int .i64 a2), (3, .int .i64 a3), (4, .func (.func 31) #[] #[]), (18, .int .i64 x10404), (20, .int .i64 x10406)] ?_
  refine cT 185 rfl ?_
  refine rg r42_40 ?_
  refine xq 5 [(190, .func (.func 31) #[] #[]), (189, .int .i64 (w64 (x10405 - x10406))), (188, .int .i64 a2), (187, .int .i64 x10406), (186, v4122), (24, .int .i64 (w64 (x10405 - x10406))), (0, v4122), (1, .int .i64 a1), (3, .int .i64 a3), (4, .func (.func 31) #[] #[]), (18, .int .i64 x10404), (20, .int .i64 x10406)] ?_
  obtain ⟨r10428, hx10429, ho10424⟩ := obind ho10424
  have hF10435 : St _ _ _ _ _ _ ([.gs v4122 c4123 (csz api_Edit)] ++ []) := (hS10408.front 0 rfl)
  obtain ⟨v10430, h10431, Z10436, A10438, hcl10432, hSc10433, c10440, rfl, rfl, q10439⟩ := slices_rotateCmpFunc_api_Edit_ok F hF10435.preL (q4121.mono hS10408.zle) hx10429
  have hZ10437 := hSc10433.zle
  have hS10434 := hF10435.call hSc10433
  replace hS10434 : St _ _ _ _ _ _ [.gs v4122 c10440 (csz api_Edit)] := hS10434
  refine r_step rfl trivial (o_call hcl10432 rfl rfl rfl) ?_
  refine xf [(24, .int .i64 (w64 (x10405 - x10406))), (0, v4122), (1, .int .i64 a1), (3, .int .i64 a3), (4, .func (.func 31) #[] #[]), (18, .int .i64 x10404), (20, .int .i64 x10406)] ?_
  obtain rfl := Option.some.inj ho10424
  exact ⟨_, r10428, c10440, rfl, q10439, rfl, hS10434⟩
  refine r_step rfl rfl (o_cmp rfl rfl (c_lss_F hp10427)) ?_
  refine xe 1 [(185, .bool false), (24, .int .i64 (w64 (x10405 - x10406))), (0, v4122), (1, .int .i64 a1), (2, .int .i64 a2), (3, .int .i64 a3), (4, .func (.func 31) #[] #[]), (18, .int .i64 x10404), (20, .int .i64 x10406)] ?_
  refine kF 185 rfl ?_
  obtain rfl := Option.some.inj ho10424
  exact ⟨_, a0, c4123, rfl, (q4121.mono hS10408.zle), rfl, hS10408⟩
  refine r_step rfl trivial (o_cmp rfl rfl (c_lss_F hp10426)) ?_
  refine xe 5 [(185, .bool false), (24, .int .i64 (w64 (x10405 - x10406))), (0, v4122), (1, .int .i64 a1), (2, .int .i64 a2), (3, .int .i64 a3), (4, .func (.func 31) #[] #[]), (18, .int .i64 x10404), (20, .int .i64 x10406)] ?_
  refine kF 185 rfl ?_
  obtain rfl := Option.some.inj ho10424
  exact ⟨_, a0, c4123, rfl, (q4121.mono hS10408.zle), rfl, hS10408⟩
  refine bk 8 ?_
  refine lp [0, 1, 2, 3, 4, 18, 19, 20, 21, 22] (fun n l h => ∃ Z10351 : Zn, ∃ x10352 : Int, ∃ x10353 : Int, ∃ x10354 : Int, ∃ x10355 : Int, ∃ x10356 : Int, slices_symMergeCmpFunc_api_Edit_l4 F rec_slices_symMergeCmpFunc_api_Edit a0 a1 a2 a3 n x10352 x10353 x10354 x10355 x10356 = some o10350 ∧ l = [(0, v4122), (1, .int .i64 a1), (2, .int .i64 a2), (3, .int .i64 a3), (4, .func (.func 31) #[] #[]), (18, .int .i64 x10352), (19, .int .i64 x10353), (20, .int .i64 x10354), (21, .int .i64 x10355), (22, .int .i64 x10356)] ∧ St hs (idsL [.gs v4122 c4123 (csz api_Edit)]) Z (0, 0) Z10351 h [.gs v4122 c4123 (csz api_Edit)]) F ⟨_, w64 (ishr .u64 (IntKind.wrap .u64 (w64 (a1 + a3))) 1), w64 ((w64 (ishr .u64 (IntKind.wrap .u64 (w64 (a1 + a3))) 1)) + a2), x10297, x10298, w64 ((w64 ((w64 (ishr .u64 (IntKind.wrap .u64 (w64 (a1 + a3))) 1)) + a2)) - 1), ho10349, rfl, hS10300⟩ ?_
  rintro n10359 l h10357 ⟨Z10351, x10352, x10353, x10354, x10355, x10356, ho10349, rfl, hS10358⟩
  rcases n10359 with _ | n10359
  cases (show none = some o10350 from ho10349)
  rw [slices_symMergeCmpFunc_api_Edit_l4] at ho10349
  refine sq ?_
  refine sr r42_33 ?_
  refine xq 2 [(150, .int .i64 x10355), (149, .int .i64 x10354), (0, v4122), (1, .int .i64 a1), (2, .int .i64 a2), (3, .int .i64 a3), (4, .func (.func 31) #[] #[]), (18, .int .i64 x10352), (19, .int .i64 x10353), (20, .int .i64 x10354), (21, .int .i64 x10355), (22, .int .i64 x10356)] ?_
  rcases ifs ho10349 with ⟨hp10362, ho10349⟩ | ⟨hp10362, ho10349⟩
  refine r_step rfl trivial (o_cmp rfl rfl (c_lss_T hp10362)) ?_
  refine xf [(151, .bool true), (0, v4122), (1, .int .i64 a1), (2, .int .i64 a2), (3, .int .i64 a3), (4, .func (.func 31) #[] #[]), (18, .int .i64 x10352), (19, .int .i64 x10353), (20, .int .i64 x10354), (21, .int .i64 x10355), (22, .int .i64 x10356)] ?_
  refine kT 151 rfl ?_
  refine bk 9 ?_
  refine sr r42_34 ?_
  refine xq 3 [(154, .int .i64 (w64 (x10354 + x10355))), (0, v4122), (1, .int .i64 a1), (2, .int .i64 a2), (3, .int .i64 a3), (4, .func (.func 31) #[] #[]), (18, .int .i64 x10352), (19, .int .i64 x10353), (20, .int .i64 x10354), (21, .int .i64 x10355), (22, .int .i64 x10356)] ?_
  refine r_step rfl trivial (o_conv (k := .u64) (n := w64 (x10354 + x10355)) rfl (by kernel_rfl)) ?_
  refine xq 1 [(156, .int .u64 (ishr .u64 (IntKind.wrap .u64 (w64 (x10354 + x10355))) 1)), (0, v4122), (1, .int .i64 a1), (2, .int .i64 a2), (3, .int .i64 a3), (4, .func (.func 31) #[] #[]), (18, .int .i64 x10352), (19, .int .i64 x10353), (20, .int .i64 x10354), (21, .int .i64 x10355), (22, .int .i64 x10356)] ?_
  refine r_step rfl trivial (o_conv (k := .i64) (n := ishr .u64 (IntKind.wrap .u64 (w64 (x10354 + x10355))) 1) rfl (by kernel_rfl)) ?_
  refine xe 1 [(23, .int .i64 (w64 (ishr .u64 (IntKind.wrap .u64 (w64 (x10354 + x10355))) 1))), (0, v4122), (1, .int .i64 a1), (2, .int .i64 a2), (3, .int .i64 a3), (4, .func (.func 31) #[] #[]), (18, .int .i64 x10352), (19, .int .i64 x10353), (20, .int .i64 x10354), (21, .int .i64 x10355), (22, .int .i64 x10356)] ?_
  refine srF r42_35 hS10358 ?_
  intro bs10363 h10364 hlv10366 hS10365
  refine yq 5 [(162, .int .i64 (w64 (x10356 - (w64 (ishr .u64 (IntKind.wrap .u64 (w64 (x10354 + x10355))) 1))))), (159, v4122), (158, .func (.func 31) #[] #[]), (23, .int .i64 (w64 (ishr .u64 (IntKind.wrap .u64 (w64 (x10354 + x10355))) 1))), (0, v4122), (1, .int .i64 a1), (2, .int .i64 a2), (3, .int .i64 a3), (4, .func (.func 31) #[] #[]), (18, .int .i64 x10352), (19, .int .i64 x10353), (20, .int .i64 x10354), (21, .int .i64 x10355), (22, .int .i64 x10356)] ?_
  obtain ⟨hc10367, ho10349⟩ := chk ho10349
  refine e_val rfl trivial (o_index rfl rfl (by kernel_rfl : slTy _ _ = some (csz api_Edit)) (hS10365.gbased (j := 0) rfl (q4121.mono hS10358.zle) (by omega)) hc10367.1 hc10367.2) ?_
  obtain ⟨x10368, hx10369, ho10349⟩ := obind ho10349
  obtain ⟨cs10370, hc10371, he10372, ht10373⟩ := hS10365.gel (j := 0) rfl (q4121.mono hS10358.zle) (i := w64 (x10356 - (w64 (ishr .u64 (IntKind.wrap .u64 (w64 (x10354 + x10355))) 1)))) hx10369
  obtain rfl := rc_api_Edit hc10371
  have ps10374 := pos_of hx10369
  have hB10375 := hS10365.gbased (j := 0) rfl (q4121.mono hS10358.zle) ps10374
  have lt10376 : (baseOf v4122).block < bs10363 := row_ltM (hlv10366.1 _ (List.mem_of_getElem? (i := 0) rfl)) hB10375
  refine e_lookB rfl trivial rfl (by show (baseOf v4122).block < _; omega) (same_agg (cs := [.int .i64 x10368.From, .int .i64 x10368.To, .string ⟨⟨x10368.Put.b⟩⟩]) (.cons trivial (.cons trivial (.cons trivial .nil)))) (o_lde (w := .agg #[.int .i64 x10368.From, .int .i64 x10368.To, .string ⟨⟨x10368.Put.b⟩⟩]) he10372 rfl (by kernel_rfl)) trivial ?_
  refine yq 2 [(166, .int .i64 (w64 (ishr .u64 (IntKind.wrap .u64 (w64 (x10354 + x10355))) 1))), (165, v4122), (164, .agg #[.int .i64 x10368.From, .int .i64 x10368.To, .string ⟨⟨x10368.Put.b⟩⟩]), (158, .func (.func 31) #[] #[]), (23, .int .i64 (w64 (ishr .u64 (IntKind.wrap .u64 (w64 (x10354 + x10355))) 1))), (0, v4122), (1, .int .i64 a1), (2, .int .i64 a2), (3, .int .i64 a3), (4, .func (.func 31) #[] #[]), (18, .int .i64 x10352), (19, .int .i64 x10353), (20, .int .i64 x10354), (21, .int .i64 x10355), (22, .int .i64 x10356)] ?_
  obtain ⟨hc10377, ho10349⟩ := chk ho10349
  refine e_val rfl trivial (o_index rfl rfl (by kernel_rfl : slTy _ _ = some (csz api_Edit)) (hS10365.gbased (j := 0) rfl (q4121.mono hS10358.zle) (by omega)) hc10377.1 hc10377.2) ?_
  obtain ⟨x10378, hx10379, ho10349⟩ := obind ho10349
  obtain ⟨cs10380, hc10381, he10382, ht10383⟩ := hS10365.gel (j := 0) rfl (q4121.mono hS10358.zle) (i := w64 (ishr .u64 (IntKind.wrap .u64 (w64 (x10354 + x10355))) 1)) hx10379
  obtain rfl := rc_api_Edit hc10381
  have ps10384 := pos_of hx10379
  have hB10385 := hS10365.gbased (j := 0) rfl (q4121.mono hS10358.zle) ps10384
  have lt10386 : (baseOf v4122).block < bs10363 := row_ltM (hlv10366.1 _ (List.mem_of_getElem? (i := 0) rfl)) hB10385
  refine e_lookB rfl trivial rfl (by show (baseOf v4122).block < _; omega) (same_agg (cs := [.int .i64 x10378.From, .int .i64 x10378.To, .string ⟨⟨x10378.Put.b⟩⟩]) (.cons trivial (.cons trivial (.cons trivial .nil)))) (o_lde (w := .agg #[.int .i64 x10378.From, .int .i64 x10378.To, .string ⟨⟨x10378.Put.b⟩⟩]) he10382 rfl (by kernel_rfl)) trivial ?_
  obtain ⟨r10387, hx10388, ho10349⟩ := obind ho10349
  have hSl10394 := hS10365.lown
  obtain ⟨v10389, h10390, hcl10391, hSc10392, rfl⟩ := edit_Choose_2_ok F hSl10394.inv  hx10388
  have hS10393 := St.call (A := []) (B := [.gs v4122 c4123 (csz api_Edit)]) hSl10394 hSc10392
  replace hS10393 : St _ _ _ _ _ _ [.gs v4122 c4123 (csz api_Edit)] := hS10393
  refine e_still rfl trivial hS10365 (o_call hcl10391 rfl rfl rfl) hS10393 (St.lowk hSc10392) ?_
  intro h10395 hS10396
  rcases ifs ho10349 with ⟨hp10397, ho10349⟩ | ⟨hp10397, ho10349⟩
  refine e_val rfl trivial (o_cmp rfl rfl (c_lss_T hp10397)) ?_
  refine ye 1 [(171, .bool false), (23, .int .i64 (w64 (ishr .u64 (IntKind.wrap .u64 (w64 (x10354 + x10355))) 1))), (0, v4122), (1, .int .i64 a1), (2, .int .i64 a2), (3, .int .i64 a3), (4, .func (.func 31) #[] #[]), (18, .int .i64 x10352), (19, .int .i64 x10353), (20, .int .i64 x10354), (21, .int .i64 x10355), (22, .int .i64 x10356)] ?_
  have hS10398 := hS10396.unres
  refine cF 171 rfl ?_
  refine rg r42_37 ?_
  refine xe 2 [(21, .int .i64 (w64 (ishr .u64 (IntKind.wrap .u64 (w64 (x10354 + x10355))) 1))), (0, v4122), (1, .int .i64 a1), (2, .int .i64 a2), (3, .int .i64 a3), (4, .func (.func 31) #[] #[]), (18, .int .i64 x10352), (19, .int .i64 x10353), (20, .int .i64 x10354), (22, .int .i64 x10356)] ?_
  exact ⟨n10359, Nat.lt_succ_self _, ⟨_, x10352, x10353, x10354, w64 (ishr .u64 (IntKind.wrap .u64 (w64 (x10354 + x10355))) 1), x10356, ho10349, rfl, hS10398⟩⟩
  refine e_val rfl trivial (o_cmp rfl rfl (c_lss_F hp10397)) ?_
  refine ye 1 [(171, .bool true), (23, .int .i64 (w64 (ishr .u64 (IntKind.wrap .u64 (w64 (x10354 + x10355))) 1))), (0, v4122), (1, .int .i64 a1), (2, .int .i64 a2), (3, .int .i64 a3), (4, .func (.func 31) #[] #[]), (18, .int .i64 x10352), (19, .int .i64 x10353), (20, .int .i64 x10354), (21, .int .i64 x10355), (22, .int .i64 x10356)] ?_
  have hS10399 := hS10396.unres
  refine cT 171 rfl ?_
  refine rg r42_36 ?_
  refine xe 3 [(20, .int .i64 (w64 ((w64 (ishr .u64 (IntKind.wrap .u64 (w64 (x10354 + x10355))) 1)) + 1))), (0, v4122), (1, .int .i64 a1), (2, .int .i64 a2), (3, .int .i64 a3), (4, .func (.func 31) #[] #[]), (18, .int .i64 x10352), (19, .int .i64 x10353), (21, .int .i64 x10355), (22, .int .i64 x10356)] ?_
  exact ⟨n10359, Nat.lt_succ_self _, ⟨_, x10352, x10353, w64 ((w64 (ishr .u64 (IntKind.wrap .u64 (w64 (x10354 + x10355))) 1)) + 1), x10355, x10356, ho10349, rfl, hS10399⟩⟩
  refine r_step rfl trivial (o_cmp rfl rfl (c_lss_F hp10362)) ?_
  refine xf [(151, .bool false), (0, v4122), (1, .int .i64 a1), (2, .int .i64 a2), (3, .int .i64 a3), (4, .func (.func 31) #[] #[]), (18, .int .i64 x10352), (19, .int .i64 x10353), (20, .int .i64 x10354), (21, .int .i64 x10355), (22, .int .i64 x10356)] ?_
  refine cF 151 rfl ?_
  refine xt 8 ?_
  refine blkX_hit ?_
  obtain rfl := Option.some.inj ho10349
  exact ⟨_, x10352, x10353, x10354, rfl, rfl, hS10358⟩
  refine sr r42_27 ?_
  refine xq 2 [(139, .int .i64 (w64 (ishr .u64 (IntKind.wrap .u64 (w64 (a1 + a3))) 1))), (138, .int .i64 a2), (19, .int .i64 (w64 ((w64 (ishr .u64 (IntKind.wrap .u64 (w64 (a1 + a3))) 1)) + a2))), (18, .int .i64 (w64 (ishr .u64 (IntKind.wrap .u64 (w64 (a1 + a3))) 1))), (0, v4122), (1, .int .i64 a1), (2, .int .i64 a2), (3, .int .i64 a3), (4, .func (.func 31) #[] #[])] ?_
  rcases ifs ho10293 with ⟨hp10295, ho10293⟩ | ⟨hp10295, ho10293⟩
  refine r_step rfl trivial (o_cmp rfl rfl (c_gtr_T hp10295)) ?_
  refine xf [(140, .bool true), (19, .int .i64 (w64 ((w64 (ishr .u64 (IntKind.wrap .u64 (w64 (a1 + a3))) 1)) + a2))), (18, .int .i64 (w64 (ishr .u64 (IntKind.wrap .u64 (w64 (a1 + a3))) 1))), (0, v4122), (1, .int .i64 a1), (2, .int .i64 a2), (3, .int .i64 a3), (4, .func (.func 31) #[] #[])] ?_
  refine cT 140 rfl ?_
  refine sr r42_28 ?_
  refine xe 4 [(20, .int .i64 (w64 ((w64 ((w64 (ishr .u64 (IntKind.wrap .u64 (w64 (a1 + a3))) 1)) + a2)) - a3))), (19, .int .i64 (w64 ((w64 (ishr .u64 (IntKind.wrap .u64 (w64 (a1 + a3))) 1)) + a2))), (18, .int .i64 (w64 (ishr .u64 (IntKind.wrap .u64 (w64 (a1 + a3))) 1))), (0, v4122), (1, .int .i64 a1), (2, .int .i64 a2), (3, .int .i64 a3), (4, .func (.func 31) #[] #[])] ?_
  refine rg r42_29 ?_
  refine xe 2 [(21, .int .i64 (w64 (ishr .u64 (IntKind.wrap .u64 (w64 (a1 + a3))) 1))), (20, .int .i64 (w64 ((w64 ((w64 (ishr .u64 (IntKind.wrap .u64 (w64 (a1 + a3))) 1)) + a2)) - a3))), (19, .int .i64 (w64 ((w64 (ishr .u64 (IntKind.wrap .u64 (w64 (a1 + a3))) 1)) + a2))), (18, .int .i64 (w64 (ishr .u64 (IntKind.wrap .u64 (w64 (a1 + a3))) 1))), (0, v4122), (1, .int .i64 a1), (2, .int .i64 a2), (3, .int .i64 a3), (4, .func (.func 31) #[] #[])] ?_
  obtain rfl := Option.some.inj ho10293
  exact ⟨_, w64 ((w64 ((w64 (ishr .u64 (IntKind.wrap .u64 (w64 (a1 + a3))) 1)) + a2)) - a3), w64 (ishr .u64 (IntKind.wrap .u64 (w64 (a1 + a3))) 1), rfl, rfl, hS⟩
  refine r_step rfl trivial (o_cmp rfl rfl (c_gtr_F hp10295)) ?_
  refine xf [(140, .bool false), (19, .int .i64 (w64 ((w64 (ishr .u64 (IntKind.wrap .u64 (w64 (a1 + a3))) 1)) + a2))), (18, .int .i64 (w64 (ishr .u64 (IntKind.wrap .u64 (w64 (a1 + a3))) 1))), (0, v4122), (1, .int .i64 a1), (2, .int .i64 a2), (3, .int .i64 a3), (4, .func (.func 31) #[] #[])] ?_
  refine cF 140 rfl ?_
  refine sr r42_30 ?_
  refine xe 2 [(20, .int .i64 a1), (19, .int .i64 (w64 ((w64 (ishr .u64 (IntKind.wrap .u64 (w64 (a1 + a3))) 1)) + a2))), (18, .int .i64 (w64 (ishr .u64 (IntKind.wrap .u64 (w64 (a1 + a3))) 1))), (0, v4122), (1, .int .i64 a1), (2, .int .i64 a2), (3, .int .i64 a3), (4, .func (.func 31) #[] #[])] ?_
  refine rg r42_31 ?_
  refine xe 2 [(21, .int .i64 a2), (20, .int .i64 a1), (19, .int .i64 (w64 ((w64 (ishr .u64 (IntKind.wrap .u64 (w64 (a1 + a3))) 1)) + a2))), (18, .int .i64 (w64 (ishr .u64 (IntKind.wrap .u64 (w64 (a1 + a3))) 1))), (0, v4122), (1, .int .i64 a1), (2, .int .i64 a2), (3, .int .i64 a3), (4, .func (.func 31) #[] #[])] ?_
  obtain rfl := Option.some.inj ho10293
  exact ⟨_, a1, a2, rfl, rfl, hS⟩
def slices_symMergeCmpFunc_api_Edit_r (F : Nat) : Nat → (List api_Edit) → Int → Int → Int → Option (List api_Edit)
  | 0 => fun _ _ _ _ => none
  | n + 1 => slices_symMergeCmpFunc_api_Edit_b F (slices_symMergeCmpFunc_api_Edit_r F n)
theorem slices_symMergeCmpFunc_api_Edit_rC (F : Nat) : ∀ n, slices_symMergeCmpFunc_api_Edit_C (slices_symMergeCmpFunc_api_Edit_r F n)
  | 0 => by intro hP q4121 r hm; cases hm
  | n + 1 => by intro hP q4121 r hm; exact slices_symMergeCmpFunc_api_Edit_b_ok F _ (slices_symMergeCmpFunc_api_Edit_rC F n) hP q4121 hm
def slices_symMergeCmpFunc_api_Edit (F : Nat) (a0 : List api_Edit) (a1 : Int) (a2 : Int) (a3 : Int) : Option (List api_Edit) := slices_symMergeCmpFunc_api_Edit_r F F a0 a1 a2 a3
theorem slices_symMergeCmpFunc_api_Edit_ok (F : Nat) {h : AH} {Z : Zn} {a0 : List api_Edit} {a1 : Int} {a2 : Int} {a3 : Int} {v4122 : Value} {c4123 : List Value} (hP : Pre Z h [.gs v4122 c4123 (csz api_Edit)]) (q4121 : RCs (α := api_Edit) Z c4123 a0) {r : (List api_Edit)} (hm : slices_symMergeCmpFunc_api_Edit F a0 a1 a2 a3 = some r) :
    ∃ v h' Z' A', callI Go.Proofs.Try.prog 42 [v4122, .int .i64 a1, .int .i64 a2, .int .i64 a3, .func (.func 31) #[] #[]] h = some (v, h') ∧ St h (idsL [.gs v4122 c4123 (csz api_Edit)]) Z (0, 0) Z' h' A' ∧ ∃ c8331 : List Value, .tuple #[] = v ∧ A' = [.gs v4122 c8331 (csz api_Edit)] ∧ RCs (α := api_Edit) Z' c8331 r := slices_symMergeCmpFunc_api_Edit_rC F F hP q4121 hm


def r38_0 : List COp := [u 6 (.assign (ci 20))]
def r38_1 : List COp := [u 10 (.move (t 6)), u 7 (.assign (ci 0)), u 8 (.assign (t 10))]
def r38_2 : List COp := [u 11 (.move (t 8)), u 12 (.move (t 1)), u 13 (.binOp .leq 3 (t 11) (t 12) 3)]
def r38_3 : List COp := [u 14 (.move (t 0)), u 15 (.move (t 7)), u 16 (.move (t 8)), u 17 (.move (t 2)), u 18 (cf 41 #[(t 14), (t 15), (t 16), (t 17)] #[22, 3, 3, 54])]
def r38_4 : List COp := [u 19 (.move (t 8)), u 7 (.assign (t 19))]
def r38_5 : List COp := [u 20 (.move (t 8)), u 21 (.move (t 6)), u 22 (.binOp .add 3 (t 20) (t 21) 3), u 8 (.assign (t 22))]
def r38_6 : List COp := [u 23 (.move (t 0)), u 24 (.move (t 7)), u 25 (.move (t 1)), u 26 (.move (t 2)), u 27 (cf 41 #[(t 23), (t 24), (t 25), (t 26)] #[22, 3, 3, 54])]
def r38_7 : List COp := [u 28 (.move (t 6)), u 29 (.move (t 1)), u 30 (.binOp .lss 3 (t 28) (t 29) 3)]
def r38_8 : List COp := [u 31 (.move (t 6)), u 32 (.binOp .mul 3 (ci 2) (t 31) 3), u 7 (.assign (ci 0)), u 8 (.assign (t 32))]
def r38_9 : List COp := [u 33 (.move (t 8)), u 34 (.move (t 1)), u 35 (.binOp .leq 3 (t 33) (t 34) 3)]
def r38_10 : List COp := [u 36 (.move (t 0)), u 37 (.move (t 7)), u 38 (.move (t 7)), u 39 (.move (t 6)), u 40 (.binOp .add 3 (t 38) (t 39) 3), u 41 (.move (t 8)), u 42 (.move (t 2)), u 43 (cf 42 #[(t 36), (t 37), (t 40), (t 41), (t 42)] #[22, 3, 3, 3, 54])]
def r38_11 : List COp := [u 44 (.move (t 8)), u 7 (.assign (t 44))]
def r38_12 : List COp := [u 45 (.move (t 8)), u 46 (.move (t 6)), u 47 (.binOp .mul 3 (ci 2) (t 46) 3), u 48 (.binOp .add 3 (t 45) (t 47) 3), u 8 (.assign (t 48))]
def r38_13 : List COp := [u 49 (.move (t 7)), u 50 (.move (t 6)), u 51 (.binOp .add 3 (t 49) (t 50) 3), u 9 (.assign (t 51))]
def r38_14 : List COp := [u 52 (.move (t 9)), u 53 (.move (t 1)), u 54 (.binOp .lss 3 (t 52) (t 53) 3)]
def r38_15 : List COp := [u 55 (.move (t 0)), u 56 (.move (t 7)), u 57 (.move (t 9)), u 58 (.move (t 1)), u 59 (.move (t 2)), u 60 (cf 42 #[(t 55), (t 56), (t 57), (t 58), (t 59)] #[22, 3, 3, 3, 54])]
def r38_16 : List COp := [u 61 (.move (t 6)), u 62 (.binOp .mul 3 (t 61) (ci 2) 3), u 6 (.assign (t 62))]
def slices_stableCmpFunc_api_Edit_l0 (F : Nat) (a0 : List api_Edit) (a1 : Int) : Nat → (List api_Edit) → Int → Int → Option ((List api_Edit) × Int)
  | 0, _, _, _ => none
  | n + 1, x10716, x10719, x10720 =>
    if x10720 ≤ a1 then
      (slices_insertionSortCmpFunc_api_Edit F x10716 x10719 x10720).bind fun r10727 =>
      slices_stableCmpFunc_api_Edit_l0 F a0 a1 n r10727 x10720 (w64 (x10720 + 20))
    else
      some (x10716, x10719)
def slices_stableCmpFunc_api_Edit_l2 (F : Nat) (a0 : List api_Edit) (a1 : Int) : Nat → (List api_Edit) → Int → Int → Int → Option ((List api_Edit) × Int × Int)
  | 0, _, _, _, _ => none
  | n + 1, x10998, x11001, x11002, x11003 =>
    if x11003 ≤ a1 then
      (slices_symMergeCmpFunc_api_Edit F x10998 x11002 (w64 (x11002 + x11001)) x11003).bind fun r11010 =>
      slices_stableCmpFunc_api_Edit_l2 F a0 a1 n r11010 x11001 x11003 (w64 (x11003 + (w64 (2 * x11001))))
    else
      some (x10998, x11001, x11002)
def slices_stableCmpFunc_api_Edit_l1 (F : Nat) (a0 : List api_Edit) (a1 : Int) : Nat → (List api_Edit) → Int → Option (List api_Edit)
  | 0, _, _ => none
  | n + 1, x10936, x10939 =>
    if x10939 < a1 then
      ((slices_stableCmpFunc_api_Edit_l2 F a0 a1 F x10936 x10939 0 (w64 (2 * x10939))) : Option ((List api_Edit) × Int × Int)).bind fun o => match o with
        | (x11029, x11032, x11033) => ((if (w64 (x11033 + x11032)) < a1 then
            (slices_symMergeCmpFunc_api_Edit F x11029 x11033 (w64 (x11033 + x11032)) a1).bind fun r11053 =>
            some r11053
          else
            some x11029) : Option (List api_Edit)).bind fun o => match o with
          | x11067 => slices_stableCmpFunc_api_Edit_l1 F a0 a1 n x11067 (w64 (x11032 * 2))
    else
      some x10936
def slices_stableCmpFunc_api_Edit (F : Nat) (a0 : List api_Edit) (a1 : Int) : Option (List api_Edit) :=
  ((slices_stableCmpFunc_api_Edit_l0 F a0 a1 F a0 0 20) : Option ((List api_Edit) × Int)).bind fun o => match o with
    | (x10745, x10748) => (slices_insertionSortCmpFunc_api_Edit F x10745 x10748 a1).bind fun r10751 =>
    ((slices_stableCmpFunc_api_Edit_l1 F a0 a1 F r10751 20) : Option (List api_Edit)).bind fun o => match o with
      | x11084 => some x11084
theorem slices_stableCmpFunc_api_Edit_ok (F : Nat) {h : AH} {Z : Zn} {a0 : List api_Edit} {a1 : Int} {v2252 : Value} {c2253 : List Value} (hP : Pre Z h [.gs v2252 c2253 (csz api_Edit)]) (q2251 : RCs (α := api_Edit) Z c2253 a0) {r : (List api_Edit)} (hm : slices_stableCmpFunc_api_Edit F a0 a1 = some r) :
    ∃ v h' Z' A', callI Go.Proofs.Try.prog 38 [v2252, .int .i64 a1, .func (.func 31) #[] #[]] h = some (v, h') ∧ St h (idsL [.gs v2252 c2253 (csz api_Edit)]) Z (0, 0) Z' h' A' ∧ ∃ c10669 : List Value, .tuple #[] = v ∧ A' = [.gs v2252 c10669 (csz api_Edit)] ∧ RCs (α := api_Edit) Z' c10669 r := by
  refine fn_intro (A := [.gs v2252 c2253 (csz api_Edit)]) (Q := fun v Z' A' => ∃ c10669 : List Value, .tuple #[] = v ∧ A' = [.gs v2252 c10669 (csz api_Edit)] ∧ RCs (α := api_Edit) Z' c10669 r) Go.Proofs.Try.func38 rfl rfl (by kernel_rfl) hP ?_
  intro hs hS
  unfold slices_stableCmpFunc_api_Edit at hm
  refine sr r38_0 ?_
  refine xe 1 [(6, .int .i64 20), (0, v2252), (1, .int .i64 a1), (2, .func (.func 31) #[] #[])] ?_
  refine sr r38_1 ?_
  refine xe 3 [(8, .int .i64 20), (7, .int .i64 0), (6, .int .i64 20), (0, v2252), (1, .int .i64 a1), (2, .func (.func 31) #[] #[])] ?_
  refine sq ?_
  obtain ⟨o10714, ho10713, hm⟩ := obind hm
  refine W_join [0, 1, 2, 6, 7] (fun l h => ∃ Z10744 : Zn, ∃ x10745 : List api_Edit, ∃ x10748 : Int, ∃ c10747 : List Value, (x10745, x10748) = o10714 ∧ RCs (α := api_Edit) Z10744 c10747 x10745 ∧ l = [(0, v2252), (1, .int .i64 a1), (2, .func (.func 31) #[] #[]), (6, .int .i64 20), (7, .int .i64 x10748)] ∧ St hs (idsL [.gs v2252 c2253 (csz api_Edit)]) Z (0, 0) Z10744 h [.gs v2252 c10747 (csz api_Edit)]) ?_ ?_
  rintro l h10749 ⟨Z10744, x10745, x10748, c10747, rfl, q10746, rfl, hS10750⟩
  try dsimp only at hm
  refine sr r38_6 ?_
  refine xq 4 [(26, .func (.func 31) #[] #[]), (25, .int .i64 a1), (24, .int .i64 x10748), (23, v2252), (0, v2252), (1, .int .i64 a1), (2, .func (.func 31) #[] #[]), (6, .int .i64 20)] ?_
  obtain ⟨r10751, hx10752, hm⟩ := obind hm
  have hF10758 : St _ _ _ _ _ _ ([.gs v2252 c10747 (csz api_Edit)] ++ []) := (hS10750.front 0 rfl)
  obtain ⟨v10753, h10754, Z10759, A10761, hcl10755, hSc10756, c10763, rfl, rfl, q10762⟩ := slices_insertionSortCmpFunc_api_Edit_ok F hF10758.preL q10746 hx10752
  have hZ10760 := hSc10756.zle
  have hS10757 := hF10758.call hSc10756
  replace hS10757 : St _ _ _ _ _ _ [.gs v2252 c10763 (csz api_Edit)] := hS10757
  refine r_step rfl trivial (o_call hcl10755 rfl rfl rfl) ?_
  refine xf [(0, v2252), (1, .int .i64 a1), (2, .func (.func 31) #[] #[]), (6, .int .i64 20)] ?_
  obtain ⟨o10934, ho10933, hm⟩ := obind hm
  refine W_join [] (fun l h => ∃ Z11083 : Zn, ∃ x11084 : List api_Edit, ∃ c11086 : List Value, x11084 = o10934 ∧ RCs (α := api_Edit) Z11083 c11086 x11084 ∧ l = [] ∧ St hs (idsL [.gs v2252 c2253 (csz api_Edit)]) Z (0, 0) Z11083 h [.gs v2252 c11086 (csz api_Edit)]) ?_ ?_
  rintro l h11087 ⟨Z11083, x11084, c11086, rfl, q11085, rfl, hS11088⟩
  try dsimp only at hm
  obtain rfl := Option.some.inj hm
  refine ⟨_, _, _, ResL.nil, hS11088, ?_⟩
  exact ⟨c11086, rfl, rfl, q11085⟩
  refine bk 2 ?_
  refine lp [0, 1, 2, 6] (fun n l h => ∃ Z10935 : Zn, ∃ x10936 : List api_Edit, ∃ x10939 : Int, ∃ c10938 : List Value, slices_stableCmpFunc_api_Edit_l1 F a0 a1 n x10936 x10939 = some o10934 ∧ RCs (α := api_Edit) Z10935 c10938 x10936 ∧ l = [(0, v2252), (1, .int .i64 a1), (2, .func (.func 31) #[] #[]), (6, .int .i64 x10939)] ∧ St hs (idsL [.gs v2252 c2253 (csz api_Edit)]) Z (0, 0) Z10935 h [.gs v2252 c10938 (csz api_Edit)]) F ⟨_, r10751, 20, c10763, ho10933, q10762, rfl, hS10757⟩ ?_
  rintro n10942 l h10940 ⟨Z10935, x10936, x10939, c10938, ho10933, q10937, rfl, hS10941⟩
  rcases n10942 with _ | n10942
  cases (show none = some o10934 from ho10933)
  rw [slices_stableCmpFunc_api_Edit_l1] at ho10933
  refine sq ?_
  refine sr r38_7 ?_
  refine xq 2 [(29, .int .i64 a1), (28, .int .i64 x10939), (0, v2252), (1, .int .i64 a1), (2, .func (.func 31) #[] #[]), (6, .int .i64 x10939)] ?_
  rcases ifs ho10933 with ⟨hp10945, ho10933⟩ | ⟨hp10945, ho10933⟩
  refine r_step rfl trivial (o_cmp rfl rfl (c_lss_T hp10945)) ?_
  refine xf [(30, .bool true), (0, v2252), (1, .int .i64 a1), (2, .func (.func 31) #[] #[]), (6, .int .i64 x10939)] ?_
  refine kT 30 rfl ?_
  refine bk 3 ?_
  refine sr r38_8 ?_
  refine xe 4 [(8, .int .i64 (w64 (2 * x10939))), (7, .int .i64 0), (0, v2252), (1, .int .i64 a1), (2, .func (.func 31) #[] #[]), (6, .int .i64 x10939)] ?_
  refine sq ?_
  obtain ⟨o10996, ho10995, ho10933⟩ := obind ho10933
  refine W_join [0, 1, 2, 6, 7] (fun l h => ∃ Z11028 : Zn, ∃ x11029 : List api_Edit, ∃ x11032 : Int, ∃ x11033 : Int, ∃ c11031 : List Value, (x11029, x11032, x11033) = o10996 ∧ RCs (α := api_Edit) Z11028 c11031 x11029 ∧ l = [(0, v2252), (1, .int .i64 a1), (2, .func (.func 31) #[] #[]), (6, .int .i64 x11032), (7, .int .i64 x11033)] ∧ St hs (idsL [.gs v2252 c2253 (csz api_Edit)]) Z (0, 0) Z11028 h [.gs v2252 c11031 (csz api_Edit)]) ?_ ?_
  rintro l h11034 ⟨Z11028, x11029, x11032, x11033, c11031, rfl, q11030, rfl, hS11035⟩
  try dsimp only at ho10933
  refine sq ?_
  refine sr r38_13 ?_
  refine xe 4 [(9, .int .i64 (w64 (x11033 + x11032))), (0, v2252), (1, .int .i64 a1), (2, .func (.func 31) #[] #[]), (6, .int .i64 x11032), (7, .int .i64 x11033)] ?_
  obtain ⟨o11051, ho11050, ho10933⟩ := obind ho10933
  refine W_seqJoin0 [0, 1, 2, 6] (fun l h => ∃ Z11066 : Zn, ∃ x11067 : List api_Edit, ∃ c11069 : List Value, x11067 = o11051 ∧ RCs (α := api_Edit) Z11066 c11069 x11067 ∧ l = [(0, v2252), (1, .int .i64 a1), (2, .func (.func 31) #[] #[]), (6, .int .i64 x11032)] ∧ St hs (idsL [.gs v2252 c2253 (csz api_Edit)]) Z (0, 0) Z11066 h [.gs v2252 c11069 (csz api_Edit)]) (by kernel_rfl) ?_ ?_
  rintro l h11070 ⟨Z11066, x11067, c11069, rfl, q11068, rfl, hS11071⟩
  try dsimp only at ho10933
  refine rg r38_16 ?_
  refine xe 3 [(6, .int .i64 (w64 (x11032 * 2))), (0, v2252), (1, .int .i64 a1), (2, .func (.func 31) #[] #[])] ?_
  exact ⟨n10942, Nat.lt_succ_self _, ⟨_, x11067, w64 (x11032 * 2), c11069, ho10933, q11068, rfl, hS11071⟩⟩
  refine rg r38_14 ?_
  refine xq 2 [(53, .int .i64 a1), (52, .int .i64 (w64 (x11033 + x11032))), (9, .int .i64 (w64 (x11033 + x11032))), (0, v2252), (1, .int .i64 a1), (2, .func (.func 31) #[] #[]), (6, .int .i64 x11032), (7, .int .i64 x11033)] ?_
  rcases ifs ho11050 with ⟨hp11052, ho11050⟩ | ⟨hp11052, ho11050⟩
  refine r_step rfl trivial (o_cmp rfl rfl (c_lss_T hp11052)) ?_
  refine xf [(54, .bool true), (9, .int .i64 (w64 (x11033 + x11032))), (0, v2252), (1, .int .i64 a1), (2, .func (.func 31) #[] #[]), (6, .int .i64 x11032), (7, .int .i64 x11033)] ?_
  refine cT 54 rfl ?_
  refine rg r38_15 ?_
  refine xq 5 [(59, .func (.func 31) #[] #[]), (58, .int .i64 a1), (57, .int .i64 (w64 (x11033 + x11032))), (56, .int .i64 x11033), (55, v2252), (0, v2252), (1, .int .i64 a1), (2, .func (.func 31) #[] #[]), (6, .int .i64 x11032)] ?_
  obtain ⟨r11053, hx11054, ho11050⟩ := obind ho11050
  have hF11060 : St _ _ _ _ _ _ ([.gs v2252 c11031 (csz api_Edit)] ++ []) := (hS11035.front 0 rfl)
  obtain ⟨v11055, h11056, Z11061, A11063, hcl11057, hSc11058, c11065, rfl, rfl, q11064⟩ := slices_symMergeCmpFunc_api_Edit_ok F hF11060.preL q11030 hx11054
  have hZ11062 := hSc11058.zle
  have hS11059 := hF11060.call hSc11058
  replace hS11059 : St _ _ _ _ _ _ [.gs v2252 c11065 (csz api_Edit)] := hS11059
  refine r_step rfl trivial (o_call hcl11057 rfl rfl rfl) ?_
  refine xf [(0, v2252), (1, .int .i64 a1), (2, .func (.func 31) #[] #[]), (6, .int .i64 x11032)] ?_
  obtain rfl := Option.some.inj ho11050
  exact ⟨_, r11053, c11065, rfl, q11064, rfl, hS11059⟩
  refine r_step rfl trivial (o_cmp rfl rfl (c_lss_F hp11052)) ?_
  refine xf [(54, .bool false), (9, .int .i64 (w64 (x11033 + x11032))), (0, v2252), (1, .int .i64 a1), (2, .func (.func 31) #[] #[]), (6, .int .i64 x11032), (7, .int .i64 x11033)] ?_
  refine kF 54 rfl ?_
  obtain rfl := Option.some.inj ho11050
  exact ⟨_, x11029, c11031, rfl, q11030, rfl, hS11035⟩
  refine bk 4 ?_
  refine lp [0, 1, 2, 6, 7, 8] (fun n l h => ∃ Z10997 : Zn, ∃ x10998 : List api_Edit, ∃ x11001 : Int, ∃ x11002 : Int, ∃ x11003 : Int, ∃ c11000 : List Value, slices_stableCmpFunc_api_Edit_l2 F a0 a1 n x10998 x11001 x11002 x11003 = some o10996 ∧ RCs (α := api_Edit) Z10997 c11000 x10998 ∧ l = [(0, v2252), (1, .int .i64 a1), (2, .func (.func 31) #[] #[]), (6, .int .i64 x11001), (7, .int .i64 x11002), (8, .int .i64 x11003)] ∧ St hs (idsL [.gs v2252 c2253 (csz api_Edit)]) Z (0, 0) Z10997 h [.gs v2252 c11000 (csz api_Edit)]) F ⟨_, x10936, x10939, 0, w64 (2 * x10939), c10938, ho10995, q10937, rfl, hS10941⟩ ?_
  rintro n11006 l h11004 ⟨Z10997, x10998, x11001, x11002, x11003, c11000, ho10995, q10999, rfl, hS11005⟩
  rcases n11006 with _ | n11006
  cases (show none = some o10996 from ho10995)
  rw [slices_stableCmpFunc_api_Edit_l2] at ho10995
  refine sq ?_
  refine sr r38_9 ?_
  refine xq 2 [(34, .int .i64 a1), (33, .int .i64 x11003), (0, v2252), (1, .int .i64 a1), (2, .func (.func 31) #[] #[]), (6, .int .i64 x11001), (7, .int .i64 x11002), (8, .int .i64 x11003)] ?_
  rcases ifs ho10995 with ⟨hp11009, ho10995⟩ | ⟨hp11009, ho10995⟩
  refine r_step rfl trivial (o_cmp rfl rfl (c_leq_T hp11009)) ?_
  refine xf [(35, .bool true), (0, v2252), (1, .int .i64 a1), (2, .func (.func 31) #[] #[]), (6, .int .i64 x11001), (7, .int .i64 x11002), (8, .int .i64 x11003)] ?_
  refine kT 35 rfl ?_
  refine bk 5 ?_
  refine sr r38_10 ?_
  refine xq 7 [(42, .func (.func 31) #[] #[]), (41, .int .i64 x11003), (40, .int .i64 (w64 (x11002 + x11001))), (37, .int .i64 x11002), (36, v2252), (0, v2252), (1, .int .i64 a1), (2, .func (.func 31) #[] #[]), (6, .int .i64 x11001), (8, .int .i64 x11003)] ?_
  obtain ⟨r11010, hx11011, ho10995⟩ := obind ho10995
  have hF11017 : St _ _ _ _ _ _ ([.gs v2252 c11000 (csz api_Edit)] ++ []) := (hS11005.front 0 rfl)
  obtain ⟨v11012, h11013, Z11018, A11020, hcl11014, hSc11015, c11022, rfl, rfl, q11021⟩ := slices_symMergeCmpFunc_api_Edit_ok F hF11017.preL q10999 hx11011
  have hZ11019 := hSc11015.zle
  have hS11016 := hF11017.call hSc11015
  replace hS11016 : St _ _ _ _ _ _ [.gs v2252 c11022 (csz api_Edit)] := hS11016
  refine r_step rfl trivial (o_call hcl11014 rfl rfl rfl) ?_
  refine xf [(0, v2252), (1, .int .i64 a1), (2, .func (.func 31) #[] #[]), (6, .int .i64 x11001), (8, .int .i64 x11003)] ?_
  refine sr r38_11 ?_
  refine xe 2 [(7, .int .i64 x11003), (0, v2252), (1, .int .i64 a1), (2, .func (.func 31) #[] #[]), (6, .int .i64 x11001), (8, .int .i64 x11003)] ?_
  refine rg r38_12 ?_
  refine xe 5 [(8, .int .i64 (w64 (x11003 + (w64 (2 * x11001))))), (7, .int .i64 x11003), (0, v2252), (1, .int .i64 a1), (2, .func (.func 31) #[] #[]), (6, .int .i64 x11001)] ?_
  exact ⟨n11006, Nat.lt_succ_self _, ⟨_, r11010, x11001, x11003, w64 (x11003 + (w64 (2 * x11001))), c11022, ho10995, q11021, rfl, hS11016⟩⟩
  refine r_step rfl trivial (o_cmp rfl rfl (c_leq_F hp11009)) ?_
  refine xf [(35, .bool false), (0, v2252), (1, .int .i64 a1), (2, .func (.func 31) #[] #[]), (6, .int .i64 x11001), (7, .int .i64 x11002), (8, .int .i64 x11003)] ?_
  refine cF 35 rfl ?_
  refine xt 4 ?_
  refine blkX_hit ?_
  obtain rfl := Option.some.inj ho10995
  exact ⟨_, x10998, x11001, x11002, c11000, rfl, q10999, rfl, hS11005⟩
  refine r_step rfl trivial (o_cmp rfl rfl (c_lss_F hp10945)) ?_
  refine xf [(30, .bool false), (0, v2252), (1, .int .i64 a1), (2, .func (.func 31) #[] #[]), (6, .int .i64 x10939)] ?_
  refine cF 30 rfl ?_
  refine xt 2 ?_
  refine blkX_hit ?_
  obtain rfl := Option.some.inj ho10933
  exact ⟨_, x10936, c10938, rfl, q10937, rfl, hS10941⟩
  refine bk 0 ?_
  refine lp [0, 1, 2, 6, 7, 8] (fun n l h => ∃ Z10715 : Zn, ∃ x10716 : List api_Edit, ∃ x10719 : Int, ∃ x10720 : Int, ∃ c10718 : List Value, slices_stableCmpFunc_api_Edit_l0 F a0 a1 n x10716 x10719 x10720 = some o10714 ∧ RCs (α := api_Edit) Z10715 c10718 x10716 ∧ l = [(0, v2252), (1, .int .i64 a1), (2, .func (.func 31) #[] #[]), (6, .int .i64 20), (7, .int .i64 x10719), (8, .int .i64 x10720)] ∧ St hs (idsL [.gs v2252 c2253 (csz api_Edit)]) Z (0, 0) Z10715 h [.gs v2252 c10718 (csz api_Edit)]) F ⟨_, a0, 0, 20, c2253, ho10713, q2251, rfl, hS⟩ ?_
  rintro n10723 l h10721 ⟨Z10715, x10716, x10719, x10720, c10718, ho10713, q10717, rfl, hS10722⟩
  rcases n10723 with _ | n10723
  cases (show none = some o10714 from ho10713)
  rw [slices_stableCmpFunc_api_Edit_l0] at ho10713
  refine sq ?_
  refine sr r38_2 ?_
  refine xq 2 [(12, .int .i64 a1), (11, .int .i64 x10720), (0, v2252), (1, .int .i64 a1), (2, .func (.func 31) #[] #[]), (6, .int .i64 20), (7, .int .i64 x10719), (8, .int .i64 x10720)] ?_
  rcases ifs ho10713 with ⟨hp10726, ho10713⟩ | ⟨hp10726, ho10713⟩
  refine r_step rfl trivial (o_cmp rfl rfl (c_leq_T hp10726)) ?_
  refine xf [(13, .bool true), (0, v2252), (1, .int .i64 a1), (2, .func (.func 31) #[] #[]), (6, .int .i64 20), (7, .int .i64 x10719), (8, .int .i64 x10720)] ?_
  refine kT 13 rfl ?_
  refine bk 1 ?_
  refine sr r38_3 ?_
  refine xq 4 [(17, .func (.func 31) #[] #[]), (16, .int .i64 x10720), (15, .int .i64 x10719), (14, v2252), (0, v2252), (1, .int .i64 a1), (2, .func (.func 31) #[] #[]), (6, .int .i64 20), (8, .int .i64 x10720)] ?_
  obtain ⟨r10727, hx10728, ho10713⟩ := obind ho10713
  have hF10734 : St _ _ _ _ _ _ ([.gs v2252 c10718 (csz api_Edit)] ++ []) := (hS10722.front 0 rfl)
  obtain ⟨v10729, h10730, Z10735, A10737, hcl10731, hSc10732, c10739, rfl, rfl, q10738⟩ := slices_insertionSortCmpFunc_api_Edit_ok F hF10734.preL q10717 hx10728
  have hZ10736 := hSc10732.zle
  have hS10733 := hF10734.call hSc10732
  replace hS10733 : St _ _ _ _ _ _ [.gs v2252 c10739 (csz api_Edit)] := hS10733
  refine r_step rfl trivial (o_call hcl10731 rfl rfl rfl) ?_
  refine xf [(0, v2252), (1, .int .i64 a1), (2, .func (.func 31) #[] #[]), (6, .int .i64 20), (8, .int .i64 x10720)] ?_
  refine sr r38_4 ?_
  refine xe 2 [(7, .int .i64 x10720), (0, v2252), (1, .int .i64 a1), (2, .func (.func 31) #[] #[]), (6, .int .i64 20), (8, .int .i64 x10720)] ?_
  refine rg r38_5 ?_
  refine xe 4 [(8, .int .i64 (w64 (x10720 + 20))), (7, .int .i64 x10720), (0, v2252), (1, .int .i64 a1), (2, .func (.func 31) #[] #[]), (6, .int .i64 20)] ?_
  exact ⟨n10723, Nat.lt_succ_self _, ⟨_, r10727, x10720, w64 (x10720 + 20), c10739, ho10713, q10738, rfl, hS10733⟩⟩
  refine r_step rfl trivial (o_cmp rfl rfl (c_leq_F hp10726)) ?_
  refine xf [(13, .bool false), (0, v2252), (1, .int .i64 a1), (2, .func (.func 31) #[] #[]), (6, .int .i64 20), (7, .int .i64 x10719), (8, .int .i64 x10720)] ?_
  refine cF 13 rfl ?_
  refine xt 0 ?_
  refine blkX_hit ?_
  obtain rfl := Option.some.inj ho10713
  exact ⟨_, x10716, x10719, c10718, rfl, q10717, rfl, hS10722⟩

def r30_0 : List COp := [u 4 (.move (t 0)), u 5 (.move (t 0)), u 6 (cb .len #[(t 5)] #[22]), u 7 (.move (t 1)), u 8 (cf 38 #[(t 4), (t 6), (t 7)] #[22, 3, 54])]
def slices_SortStableFunc_api_Edit (F : Nat) (a0 : List api_Edit) : Option (List api_Edit) :=
  (slices_stableCmpFunc_api_Edit F a0 (a0.length : Int)).bind fun r11111 =>
  some r11111
theorem slices_SortStableFunc_api_Edit_ok (F : Nat) {h : AH} {Z : Zn} {a0 : List api_Edit} {v2249 : Value} {c2250 : List Value} (hP : Pre Z h [.gs v2249 c2250 (csz api_Edit)]) (q2248 : RCs (α := api_Edit) Z c2250 a0) {r : (List api_Edit)} (hm : slices_SortStableFunc_api_Edit F a0 = some r) :
    ∃ v h' Z' A', callI Go.Proofs.Try.prog 30 [v2249, .func (.func 31) #[] #[]] h = some (v, h') ∧ St h (idsL [.gs v2249 c2250 (csz api_Edit)]) Z (0, 0) Z' h' A' ∧ ∃ c11110 : List Value, .tuple #[] = v ∧ A' = [.gs v2249 c11110 (csz api_Edit)] ∧ RCs (α := api_Edit) Z' c11110 r := by
  refine fn_intro (A := [.gs v2249 c2250 (csz api_Edit)]) (Q := fun v Z' A' => ∃ c11110 : List Value, .tuple #[] = v ∧ A' = [.gs v2249 c11110 (csz api_Edit)] ∧ RCs (α := api_Edit) Z' c11110 r) Go.Proofs.Try.func30 rfl rfl (by kernel_rfl) hP ?_
  intro hs hS
  unfold slices_SortStableFunc_api_Edit at hm
  refine rg r30_0 ?_
  refine xq 2 [(5, v2249), (4, v2249), (1, .func (.func 31) #[] #[])] ?_
  refine r_step rfl trivial (o_len rfl (hS.glen (i := 0) rfl q2248) ⟨_, Go.Proofs.Try.underlying22⟩) ?_
  refine xq 1 [(7, .func (.func 31) #[] #[]), (6, .int .i64 (a0.length : Int)), (4, v2249)] ?_
  obtain ⟨r11111, hx11112, hm⟩ := obind hm
  have hF11118 : St _ _ _ _ _ _ ([.gs v2249 c2250 (csz api_Edit)] ++ []) := (hS.front 0 rfl)
  obtain ⟨v11113, h11114, Z11119, A11121, hcl11115, hSc11116, c11123, rfl, rfl, q11122⟩ := slices_stableCmpFunc_api_Edit_ok F hF11118.preL q2248 hx11112
  have hZ11120 := hSc11116.zle
  have hS11117 := hF11118.call hSc11116
  replace hS11117 : St _ _ _ _ _ _ [.gs v2249 c11123 (csz api_Edit)] := hS11117
  refine r_step rfl trivial (o_call hcl11115 rfl rfl rfl) ?_
  refine xf [] ?_
  obtain rfl := Option.some.inj hm
  refine ⟨_, _, _, ResL.nil, hS11117, ?_⟩
  exact ⟨c11123, rfl, rfl, q11122⟩

def r33_0 : List COp := [u 2 (.assign (.const (.slice none 0 0)))]
def r33_1 : List COp := [u 3 (.move (t 0)), u 4 (.binOp .eql 22 (t 3) (.const (.slice none 0 0)) 22)]
def r33_2 : List COp := [u 2 (.assign (.const (.slice none 0 0)))]
def r33_3 : List COp := [u 5 (.buildSlice 22 0 #[]), u 6 (.move (t 0)), u 7 (cb .append #[(t 5), (t 6)] #[22, 22]), u 2 (.assign (t 7))]
def slices_Clone_api_Edit (F : Nat) (a0 : List api_Edit) : Option (List api_Edit) :=
  if ([] : List api_Edit).length + a0.length ≤ 4398046511104 then
    some (([] : List api_Edit) ++ a0)
  else none
theorem slices_Clone_api_Edit_ok (F : Nat) {h : AH} {Z : Zn} {a0 : List api_Edit} {v11138 : Value} (hP : Pre Z h []) (q11137 : RS (α := api_Edit) Z v11138 a0) {r : (List api_Edit)} (hm : slices_Clone_api_Edit F a0 = some r) :
    ∃ v h' Z' A', callI Go.Proofs.Try.prog 33 [v11138] h = some (v, h') ∧ St h (idsL []) Z (0, 0) Z' h' A' ∧ ∃ v11157 : Value, ∃ c11158 : List Value, v11157 = v ∧ A' = [.gs v11157 c11158 (csz api_Edit)] ∧ RCs (α := api_Edit) Z' c11158 r := by
  refine fn_intro (A := []) (Q := fun v Z' A' => ∃ v11157 : Value, ∃ c11158 : List Value, v11157 = v ∧ A' = [.gs v11157 c11158 (csz api_Edit)] ∧ RCs (α := api_Edit) Z' c11158 r) Go.Proofs.Try.func33 rfl rfl (by kernel_rfl) hP ?_
  intro hs hS
  unfold slices_Clone_api_Edit at hm
  replace hS : St hs [] Z (0, 0) Z hs [] := hS
  refine sr r33_0 ?_
  refine xe 1 [(0, v11138)] ?_
  refine sq ?_
  refine sr r33_1 ?_
  refine xq 1 [(3, v11138), (0, v11138)] ?_
  rcases nil_or q11137 with ⟨hn11161, hv11162⟩ | hv11162
  replace hm : some [] = some r := by rw [hn11161] at hm; simpa using hm
  refine r_step rfl trivial (o_cmp rfl rfl (c_nilT ⟨_, Go.Proofs.Try.underlying22⟩ hv11162)) ?_
  refine xf [(4, .bool true), (0, v11138)] ?_
  refine cT 4 rfl ?_
  refine sr r33_2 ?_
  refine xe 1 [(2, .slice none 0 0)] ?_
  refine rt ?_
  refine ⟨rfl, ?_⟩
  have hS11163 := hS.nilGs (csz api_Edit)
  obtain rfl := Option.some.inj hm
  refine ⟨_, _, _, ResL.tmp rfl (ResL.nil), hS11163, ?_⟩
  exact ⟨(.slice none 0 0), [], rfl, rfl, (RCs.nil0 _)⟩
  refine r_step rfl trivial (o_cmp rfl rfl (c_nilF ⟨_, Go.Proofs.Try.underlying22⟩ hv11162)) ?_
  refine xf [(4, .bool false), (0, v11138)] ?_
  refine kF 4 rfl ?_
  refine sr r33_3 ?_
  have q11168 : RCs (α := api_Edit) Z [] [] := RCs.nil0 _
  refine r_row rfl trivial (o_bs (cells := []) (s := 3) (by kernel_rfl)) (by kernel_rfl) hS ?_
  intro v11165 h11166 hS11167
  replace hS11167 : St _ _ _ _ _ _ [.gs v11165 [] (csz api_Edit)] := hS11167
  refine xq 1 [(6, v11138), (5, v11165)] ?_
  obtain ⟨c11171, nw11170⟩ := RS.news q11137 (hS11167).inv
  obtain ⟨hc11177, hm⟩ := chk hm
  refine r_ex3 rfl trivial (o_app (ys := a0) (by_ := 32) hS11167 (i := 0) rfl q11168 nw11170 rfl rfl (by kernel_rfl) (by omega) (by omega)) ?_
  rintro v11172 c11173 h11174 ⟨q11176, hS11175⟩
  replace hS11175 : St _ _ _ _ _ _ [.gs v11172 c11173 (csz api_Edit)] := hS11175
  refine xe 1 [(2, v11172)] ?_
  refine rt ?_
  refine ⟨rfl, ?_⟩
  obtain rfl := Option.some.inj hm
  refine ⟨_, _, _, ResL.tmp rfl (ResL.nil), hS11175, ?_⟩
  exact ⟨v11172, c11173, rfl, rfl, q11176⟩

def r16_0 : List COp := [u 4 (.assign (.const (.slice none 0 0)))]
def r16_1 : List COp := [u 5 (.assign (.const (.slice none 0 0)))]
def r16_2 : List COp := [u 8 (.move (t 1)), u 9 (cb .len #[(t 8)] #[22]), u 10 (.move (ci 0))]
def r16_3 : List COp := [u 11 (.binOp .lss 3 (t 10) (t 9) 3)]
def r16_4 : List COp := [u 12 (.indexAddr 22 (t 8) (t 10)), u 13 (.load 29 (t 12)), u 7 (.alloc 29), o (.store 29 (t 7) (t 13))]
def r16_5 : List COp := [u 14 (.move (t 5)), u 15 (cb .len #[(t 14)] #[22]), u 16 (.binOp .eql 3 (t 15) (ci 200) 3), u 17 (.move (t 16)), gN 17 (some 18) (.move (t 0)), gN 17 (some 19) (.load 29 (t 7)), gN 17 (some 20) (cf 26 #[(t 18), (t 19)] #[3, 29]), gN 17 (some 21) (.binOp .neq 32 (t 20) (ci 0) 32), u 22 (.pick (t 17) (.const (.bool true)) (t 21)), u 23 (.move (t 22)), gN 23 (some 24) (.move (t 5)), gN 23 (some 25) (.makeFunc (.func 28) #[] #[(t 7)]), gN 23 (some 26) (cf 27 #[(t 24), (t 25)] #[22, 51]), u 27 (.pick (t 23) (.const (.bool true)) (t 26))]
def r16_6 : List COp := [u 28 (.move (t 5)), u 29 (.load 29 (t 7)), u 30 (.buildSlice 22 1 #[(0, (t 29))]), u 31 (cb .append #[(t 28), (t 30)] #[22, 22]), u 5 (.assign (t 31))]
def r16_7 : List COp := [u 32 (.binOp .add 3 (t 10) (ci 1) 3), u 10 (.move (t 32))]
def r16_8 : List COp := [u 33 (.move (t 5)), u 34 (cf 30 #[(t 33), (.func 31)] #[22, 54])]
def r16_9 : List COp := [u 35 (.move (t 5)), u 36 (cf 33 #[(t 35)] #[22]), u 4 (.assign (t 36))]
def edit_Choose_l0 (F : Nat) (a0 : Int) (a1 : List api_Edit) : Nat → (List api_Edit) → Int → Option (List api_Edit)
  | 0, _, _ => none
  | n + 1, x11357, x11361 =>
    if x11361 < (a1.length : Int) then
      if 0 ≤ x11361 ∧ x11361 < (a1.length : Int) then
        (a1[x11361.toNat]?).bind fun x11368 =>
        if (x11357.length : Int) = (200 : Int) then
          edit_Choose_l0 F a0 a1 n x11357 (w64 (x11361 + 1))
        else
          (edit_one F a0 x11368).bind fun r11401 =>
          if r11401 = (0 : Int) then
            (slices_ContainsFunc_api_Edit F x11357 x11368).bind fun r11409 =>
            if r11409 = true then
              edit_Choose_l0 F a0 a1 n x11357 (w64 (x11361 + 1))
            else
              if x11357.length + [x11368].length ≤ 4398046511104 then
                edit_Choose_l0 F a0 a1 n (x11357 ++ [x11368]) (w64 (x11361 + 1))
              else none
          else
            edit_Choose_l0 F a0 a1 n x11357 (w64 (x11361 + 1))
      else none
    else
      some x11357
def edit_Choose (F : Nat) (a0 : Int) (a1 : List api_Edit) : Option (List api_Edit) :=
  ((edit_Choose_l0 F a0 a1 F [] 0) : Option (List api_Edit)).bind fun o => match o with
    | x11439 => (slices_SortStableFunc_api_Edit F x11439).bind fun r11445 =>
    (slices_Clone_api_Edit F r11445).bind fun r11462 =>
    some r11462
theorem edit_Choose_ok (F : Nat) {h : AH} {Z : Zn} {a0 : Int} {a1 : List api_Edit} {v1807 : Value} (hP : Pre Z h []) (q1806 : RS (α := api_Edit) Z v1807 a1) {r : (List api_Edit)} (hm : edit_Choose F a0 a1 = some r) :
    ∃ v h' Z' A', callI Go.Proofs.Try.prog 16 [.int .i64 a0, v1807] h = some (v, h') ∧ St h (idsL []) Z (0, 0) Z' h' A' ∧ ∃ v11197 : Value, ∃ c11198 : List Value, v11197 = v ∧ A' = [.gs v11197 c11198 (csz api_Edit)] ∧ RCs (α := api_Edit) Z' c11198 r := by
  refine fn_intro (A := []) (Q := fun v Z' A' => ∃ v11197 : Value, ∃ c11198 : List Value, v11197 = v ∧ A' = [.gs v11197 c11198 (csz api_Edit)] ∧ RCs (α := api_Edit) Z' c11198 r) Go.Proofs.Try.func16 rfl rfl (by kernel_rfl) hP ?_
  intro hs hS
  unfold edit_Choose at hm
  replace hS : St hs [] Z (0, 0) Z hs [] := hS
  refine sr r16_0 ?_
  refine xe 1 [(0, .int .i64 a0), (1, v1807)] ?_
  refine sr r16_1 ?_
  refine xe 1 [(5, .slice none 0 0), (0, .int .i64 a0), (1, v1807)] ?_
  refine sq ?_
  refine sr r16_2 ?_
  refine xq 1 [(8, v1807), (5, .slice none 0 0), (0, .int .i64 a0)] ?_
  refine r_step rfl trivial (o_len rfl (RS.len q1806) ⟨_, Go.Proofs.Try.underlying22⟩) ?_
  refine xe 1 [(10, .int .i64 0), (9, .int .i64 (a1.length : Int)), (8, v1807), (5, .slice none 0 0), (0, .int .i64 a0)] ?_
  obtain ⟨o11353, ho11352, hm⟩ := obind hm
  refine W_join [5] (fun l h => ∃ Z11438 : Zn, ∃ x11439 : List api_Edit, ∃ v11441 : Value, ∃ c11442 : List Value, x11439 = o11353 ∧ RCs (α := api_Edit) Z11438 c11442 x11439 ∧ l = [(5, v11441)] ∧ St hs [] Z (0, 0) Z11438 h [.gs v11441 c11442 (csz api_Edit)]) ?_ ?_
  rintro l h11443 ⟨Z11438, x11439, v11441, c11442, rfl, q11440, rfl, hS11444⟩
  try dsimp only at hm
  refine sr r16_8 ?_
  refine xq 1 [(33, v11441), (5, v11441)] ?_
  obtain ⟨r11445, hx11446, hm⟩ := obind hm
  have hF11452 : St _ _ _ _ _ _ ([.gs v11441 c11442 (csz api_Edit)] ++ []) := (hS11444.front 0 rfl)
  obtain ⟨v11447, h11448, Z11453, A11455, hcl11449, hSc11450, c11457, rfl, rfl, q11456⟩ := slices_SortStableFunc_api_Edit_ok F hF11452.preL q11440 hx11446
  have hZ11454 := hSc11450.zle
  have hS11451 := hF11452.call hSc11450
  replace hS11451 : St _ _ _ _ _ _ [.gs v11441 c11457 (csz api_Edit)] := hS11451
  refine r_step rfl trivial (o_call hcl11449 rfl rfl rfl) ?_
  refine xf [(5, v11441)] ?_
  refine sr r16_9 ?_
  refine xq 1 [(35, v11441)] ?_
  obtain ⟨Z11458, hZ11459, q11460, hS11461⟩ := (hS11451.front 0 rfl).freeze q11456
  replace hS11461 : St _ _ _ _ _ _ [] := hS11461
  obtain ⟨r11462, hx11463, hm⟩ := obind hm
  have hSr11469 : St _ _ _ _ _ _ ([] ++ []) := hS11461
  obtain ⟨v11464, h11465, Z11470, A11472, hcl11466, hSc11467, v11474, c11475, rfl, rfl, q11473⟩ := slices_Clone_api_Edit_ok F hSr11469.preL q11460 hx11463
  have hS11468 := hSr11469.call hSc11467
  have hZ11471 := hSc11467.zle
  replace hS11468 : St _ _ _ _ _ _ [.gs v11474 c11475 (csz api_Edit)] := hS11468
  refine r_step rfl trivial (o_call hcl11466 rfl rfl rfl) ?_
  refine xe 1 [(4, v11474)] ?_
  refine rt ?_
  refine ⟨rfl, ?_⟩
  obtain rfl := Option.some.inj hm
  refine ⟨_, _, _, ResL.tmp rfl (ResL.nil), hS11468, ?_⟩
  exact ⟨v11474, c11475, rfl, rfl, q11473⟩
  refine bk 0 ?_
  have hS11354 := hS.nilGs (csz api_Edit)
  refine lp [0, 5, 8, 9, 10] (fun n l h => ∃ Z11356 : Zn, ∃ x11357 : List api_Edit, ∃ x11361 : Int, ∃ v11359 : Value, ∃ c11360 : List Value, edit_Choose_l0 F a0 a1 n x11357 x11361 = some o11353 ∧ RCs (α := api_Edit) Z11356 c11360 x11357 ∧ l = [(0, .int .i64 a0), (5, v11359), (8, v1807), (9, .int .i64 (a1.length : Int)), (10, .int .i64 x11361)] ∧ St hs [] Z (0, 0) Z11356 h [.gs v11359 c11360 (csz api_Edit)]) F ⟨_, [], 0, (.slice none 0 0), [], ho11352, (RCs.nil0 _), rfl, hS11354⟩ ?_
  rintro n11364 l h11362 ⟨Z11356, x11357, x11361, v11359, c11360, ho11352, q11358, rfl, hS11363⟩
  rcases n11364 with _ | n11364
  cases (show none = some o11353 from ho11352)
  rw [edit_Choose_l0] at ho11352
  refine sr r16_3 ?_
  rcases ifs ho11352 with ⟨hp11366, ho11352⟩ | ⟨hp11366, ho11352⟩
  refine r_step rfl trivial (o_cmp rfl rfl (c_lss_T hp11366)) ?_
  refine xf [(11, .bool true), (0, .int .i64 a0), (5, v11359), (8, v1807), (9, .int .i64 (a1.length : Int)), (10, .int .i64 x11361)] ?_
  refine sq ?_
  refine kT 11 rfl ?_
  refine sq ?_
  refine bk 1 ?_
  refine sr r16_4 ?_
  obtain ⟨hc11367, ho11352⟩ := chk ho11352
  refine r_step rfl trivial (o_index rfl rfl (by kernel_rfl : slTy _ _ = some (csz api_Edit)) (RS.based (q1806.mono hS11363.zle) (by omega)) hc11367.1 hc11367.2) ?_
  obtain ⟨x11368, hx11369, ho11352⟩ := obind ho11352
  obtain ⟨cs11370, hc11371, he11372⟩ := RS.elz (q1806.mono hS11363.zle) (i := x11361) hx11369
  obtain rfl := rc_api_Edit hc11371
  refine r_step rfl trivial (o_lde (w := .agg #[.int .i64 x11368.From, .int .i64 x11368.To, .string ⟨⟨x11368.Put.b⟩⟩]) (he11372 _ (hS11363.zin0 (Zle.refl _))) rfl (by kernel_rfl)) ?_
  refine r_blk rfl trivial (o_alloc (cs := [.int .i64 0, .int .i64 0, .string ⟨⟨[]⟩⟩]) (by kernel_rfl)) hS11363 ?_
  intro b11374 h11375 hS11376
  refine r_ex1 rfl trivial (o_stb (vs := [.int .i64 x11368.From, .int .i64 x11368.To, .string ⟨⟨x11368.Put.b⟩⟩]) (cells' := [.int .i64 x11368.From, .int .i64 x11368.To, .string ⟨⟨x11368.Put.b⟩⟩]) (L' := [.blk b11374 [.int .i64 x11368.From, .int .i64 x11368.To, .string ⟨⟨x11368.Put.b⟩⟩], .gs v11359 c11360 (csz api_Edit)]) hS11376 (i := 0) rfl rfl rfl rfl (by kernel_rfl) rfl rfl rfl rfl) ?_
  intro h11377 hS11378
  refine xf [(7, .pointer (some ⟨b11374, 0, none⟩)), (0, .int .i64 a0), (5, v11359), (8, v1807), (9, .int .i64 (a1.length : Int)), (10, .int .i64 x11361)] ?_
  refine sq ?_
  refine sr r16_5 ?_
  refine xq 1 [(14, v11359), (7, .pointer (some ⟨b11374, 0, none⟩)), (0, .int .i64 a0), (5, v11359), (8, v1807), (9, .int .i64 (a1.length : Int)), (10, .int .i64 x11361)] ?_
  refine r_step rfl trivial (o_len rfl (hS11378.glen (i := 1) rfl q11358) ⟨_, Go.Proofs.Try.underlying22⟩) ?_
  rcases ifs ho11352 with ⟨hp11400, ho11352⟩ | ⟨hp11400, ho11352⟩
  refine r_step rfl trivial (o_cmp rfl rfl (c_eql_T hp11400)) ?_
  refine xe 11 [(27, .bool true), (7, .pointer (some ⟨b11374, 0, none⟩)), (0, .int .i64 a0), (5, v11359), (8, v1807), (9, .int .i64 (a1.length : Int)), (10, .int .i64 x11361)] ?_
  refine cT 27 rfl ?_
  refine xt 1 ?_
  refine blkX_hit ?_
  refine rg r16_7 ?_
  refine xe 2 [(10, .int .i64 (w64 (x11361 + 1))), (0, .int .i64 a0), (5, v11359), (8, v1807), (9, .int .i64 (a1.length : Int))] ?_
  exact ⟨n11364, Nat.lt_succ_self _, ⟨_, x11357, w64 (x11361 + 1), v11359, c11360, ho11352, q11358, rfl, ((hS11378.front 1 rfl).takeN 1)⟩⟩
  refine r_step rfl trivial (o_cmp rfl rfl (c_eql_F hp11400)) ?_
  refine xq 2 [(18, .int .i64 a0), (17, .bool false), (7, .pointer (some ⟨b11374, 0, none⟩)), (0, .int .i64 a0), (5, v11359), (8, v1807), (9, .int .i64 (a1.length : Int)), (10, .int .i64 x11361)] ?_
  refine r_step rfl rfl (o_ldb (v := .agg #[.int .i64 x11368.From, .int .i64 x11368.To, .string ⟨⟨x11368.Put.b⟩⟩]) hS11378 (i := 0) rfl rfl (by kernel_rfl)) ?_
  obtain ⟨r11401, hx11402, ho11352⟩ := obind ho11352
  obtain ⟨v11403, h11404, hcl11405, hSc11406, rfl⟩ := edit_one_ok F hS11378.inv  hx11402
  have hS11407 := St.call (A := []) (B := [.blk b11374 [.int .i64 x11368.From, .int .i64 x11368.To, .string ⟨⟨x11368.Put.b⟩⟩], .gs v11359 c11360 (csz api_Edit)]) hS11378 hSc11406
  replace hS11407 : St _ _ _ _ _ _ [.blk b11374 [.int .i64 x11368.From, .int .i64 x11368.To, .string ⟨⟨x11368.Put.b⟩⟩], .gs v11359 c11360 (csz api_Edit)] := hS11407
  refine r_step rfl rfl (o_call hcl11405 rfl rfl rfl) ?_
  rcases ifs ho11352 with ⟨hp11408, ho11352⟩ | ⟨hp11408, ho11352⟩
  refine r_step rfl rfl (o_cmp rfl rfl (c_neq_F hp11408)) ?_
  refine xq 4 [(25, .func (.func 28) #[] #[.pointer (some ⟨b11374, 0, none⟩)]), (24, v11359), (23, .bool false), (7, .pointer (some ⟨b11374, 0, none⟩)), (0, .int .i64 a0), (5, v11359), (8, v1807), (9, .int .i64 (a1.length : Int)), (10, .int .i64 x11361)] ?_
  obtain ⟨r11409, hx11410, ho11352⟩ := obind ho11352
  have hF11416 : St _ _ _ _ _ _ ([.gs v11359 c11360 (csz api_Edit), .blk b11374 [.int .i64 x11368.From, .int .i64 x11368.To, .string ⟨⟨x11368.Put.b⟩⟩]] ++ []) := ((hS11407.front 0 rfl).front 1 rfl)
  obtain ⟨v11411, h11412, Z11417, A11419, hcl11413, hSc11414, rfl, rfl⟩ := slices_ContainsFunc_api_Edit_ok F hF11416.preL q11358 hx11410
  have hZ11418 := hSc11414.zle
  have hS11415 := hF11416.call hSc11414
  replace hS11415 : St _ _ _ _ _ _ [.gs v11359 c11360 (csz api_Edit), .blk b11374 [.int .i64 x11368.From, .int .i64 x11368.To, .string ⟨⟨x11368.Put.b⟩⟩]] := hS11415
  refine r_step rfl rfl (o_call hcl11413 rfl rfl rfl) ?_
  refine xe 1 [(27, .bool r11409), (7, .pointer (some ⟨b11374, 0, none⟩)), (0, .int .i64 a0), (5, v11359), (8, v1807), (9, .int .i64 (a1.length : Int)), (10, .int .i64 x11361)] ?_
  rcases ifs ho11352 with ⟨hp11421, ho11352⟩ | ⟨hp11421, ho11352⟩
  refine W_condT (x := .tmp 27) (by kernel_rfl) rfl hp11421 ?_
  refine xt 1 ?_
  refine blkX_hit ?_
  refine rg r16_7 ?_
  refine xe 2 [(10, .int .i64 (w64 (x11361 + 1))), (0, .int .i64 a0), (5, v11359), (8, v1807), (9, .int .i64 (a1.length : Int))] ?_
  exact ⟨n11364, Nat.lt_succ_self _, ⟨_, x11357, w64 (x11361 + 1), v11359, c11360, ho11352, (q11358.mono hZ11418), rfl, (hS11415.takeN 1)⟩⟩
  refine W_condF (x := .tmp 27) (by kernel_rfl) rfl (Bool.eq_false_iff.2 hp11421) ?_
  refine sk ?_
  refine rg r16_6 ?_
  refine xq 1 [(28, v11359), (7, .pointer (some ⟨b11374, 0, none⟩)), (0, .int .i64 a0), (5, v11359), (8, v1807), (9, .int .i64 (a1.length : Int)), (10, .int .i64 x11361)] ?_
  refine r_step rfl trivial (o_ldb (v := .agg #[.int .i64 x11368.From, .int .i64 x11368.To, .string ⟨⟨x11368.Put.b⟩⟩]) hS11415 (i := 1) rfl rfl (by kernel_rfl)) ?_
  have q11425 : RCs (α := api_Edit) Z11417 [.int .i64 x11368.From, .int .i64 x11368.To, .string ⟨⟨x11368.Put.b⟩⟩] [x11368] := RCs.cons (cs := [.int .i64 x11368.From, .int .i64 x11368.To, .string ⟨⟨x11368.Put.b⟩⟩]) rfl (RCs.nil0 _)
  refine r_row rfl trivial (o_bs (cells := [.int .i64 x11368.From, .int .i64 x11368.To, .string ⟨⟨x11368.Put.b⟩⟩]) (s := 3) (by kernel_rfl)) (by kernel_rfl) hS11415 ?_
  intro v11422 h11423 hS11424
  replace hS11424 : St _ _ _ _ _ _ [.gs v11422 [.int .i64 x11368.From, .int .i64 x11368.To, .string ⟨⟨x11368.Put.b⟩⟩] (csz api_Edit), .gs v11359 c11360 (csz api_Edit), .blk b11374 [.int .i64 x11368.From, .int .i64 x11368.To, .string ⟨⟨x11368.Put.b⟩⟩]] := hS11424
  obtain ⟨hc11433, ho11352⟩ := chk ho11352
  refine r_ex3 rfl trivial (o_app (ys := [x11368]) (by_ := 32) hS11424 (i := 1) rfl (q11358.mono hZ11418) ((hS11424).gnews (j := 0) rfl q11425) rfl rfl (by kernel_rfl) (by omega) (by omega)) ?_
  rintro v11428 c11429 h11430 ⟨q11432, hS11431⟩
  replace hS11431 : St _ _ _ _ _ _ [.gs v11422 [.int .i64 x11368.From, .int .i64 x11368.To, .string ⟨⟨x11368.Put.b⟩⟩] (csz api_Edit), .gs v11428 c11429 (csz api_Edit), .blk b11374 [.int .i64 x11368.From, .int .i64 x11368.To, .string ⟨⟨x11368.Put.b⟩⟩]] := hS11431
  refine xe 1 [(5, v11428), (0, .int .i64 a0), (8, v1807), (9, .int .i64 (a1.length : Int)), (10, .int .i64 x11361)] ?_
  refine rg r16_7 ?_
  refine xe 2 [(10, .int .i64 (w64 (x11361 + 1))), (5, v11428), (0, .int .i64 a0), (8, v1807), (9, .int .i64 (a1.length : Int))] ?_
  exact ⟨n11364, Nat.lt_succ_self _, ⟨_, x11357 ++ [x11368], w64 (x11361 + 1), v11428, c11429, ho11352, q11432, rfl, ((hS11431.front 1 rfl).takeN 1)⟩⟩
  refine r_step rfl rfl (o_cmp rfl rfl (c_neq_T hp11408)) ?_
  refine xe 6 [(27, .bool true), (7, .pointer (some ⟨b11374, 0, none⟩)), (0, .int .i64 a0), (5, v11359), (8, v1807), (9, .int .i64 (a1.length : Int)), (10, .int .i64 x11361)] ?_
  refine cT 27 rfl ?_
  refine xt 1 ?_
  refine blkX_hit ?_
  refine rg r16_7 ?_
  refine xe 2 [(10, .int .i64 (w64 (x11361 + 1))), (0, .int .i64 a0), (5, v11359), (8, v1807), (9, .int .i64 (a1.length : Int))] ?_
  exact ⟨n11364, Nat.lt_succ_self _, ⟨_, x11357, w64 (x11361 + 1), v11359, c11360, ho11352, q11358, rfl, ((hS11407.front 1 rfl).takeN 1)⟩⟩
  refine r_step rfl trivial (o_cmp rfl rfl (c_lss_F hp11366)) ?_
  refine xf [(11, .bool false), (0, .int .i64 a0), (5, v11359), (8, v1807), (9, .int .i64 (a1.length : Int)), (10, .int .i64 x11361)] ?_
  refine sq ?_
  refine cF 11 rfl ?_
  refine xt 0 ?_
  refine blkX_hit ?_
  obtain rfl := Option.some.inj ho11352
  exact ⟨_, x11357, v11359, c11360, rfl, q11358, rfl, hS11363⟩

def r12_0 : List COp := [u 0 (.assign (.const (.bool false)))]
def r12_1 : List COp := [u 2 (.build 29 #[(0, (ci 2)), (1, (ci 2)), (2, (.const (.string { data := #[97] })))]), u 3 (.build 29 #[(0, (ci 2)), (1, (ci 2)), (2, (.const (.string { data := #[98] })))]), u 4 (.buildSlice 22 2 #[(0, (t 2)), (1, (t 3))]), u 5 (cf 16 #[(ci 5), (t 4)] #[3, 22]), u 1 (.assign (t 5))]
def r12_2 : List COp := [u 6 (.move (t 1)), u 7 (cb .len #[(t 6)] #[22]), u 8 (.binOp .eql 3 (t 7) (ci 1) 3), u 9 (.move (t 8)), gT 9 (some 10) (.move (t 1)), gT 9 (some 11) (.indexAddr 22 (t 10) (ci 0)), gT 9 (some 12) (.fieldAddr 29 (t 11) 2), gT 9 (some 13) (.load 9 (t 12)), gT 9 (some 14) (.binOp .eql 9 (t 13) (.const (.string { data := #[97] })) 9), u 15 (.pick (t 9) (t 14) (.const (.bool false))), u 0 (.assign (t 15))]
def correctorlaw4_known (F : Nat) : Option Bool :=
  (edit_Choose F 5 [(⟨2, 2, (⟨[97]⟩ : Str)⟩ : api_Edit), (⟨2, 2, (⟨[98]⟩ : Str)⟩ : api_Edit)]).bind fun r11521 =>
  if (r11521.length : Int) = (1 : Int) then
    if 0 ≤ (0 : Int) ∧ (0 : Int) < (r11521.length : Int) then
      (r11521[(0 : Int).toNat]?).bind fun x11537 =>
      if x11537.Put = (⟨[97]⟩ : Str) then
        some true
      else
        some false
    else none
  else
    some false
theorem correctorlaw4_known_ok (F : Nat) {h : AH} {Z : Zn} (hI : Inv Z h) {r : Bool} (hm : correctorlaw4_known F = some r) :
    ∃ v h', callI Go.Proofs.Try.prog 12 [] h = some (v, h') ∧ St h [] Z (0, 0) Z h' [] ∧ v = .bool r := by
  refine fn_plain (Q := fun v => v = .bool r) Go.Proofs.Try.func12 rfl rfl hI ?_
  intro hs hS
  unfold correctorlaw4_known at hm
  refine sr r12_0 ?_
  refine xe 1 [] ?_
  refine sr r12_1 ?_
  refine xq 2 [(3, .agg #[.int .i64 2, .int .i64 2, .string ⟨⟨[98]⟩⟩]), (2, .agg #[.int .i64 2, .int .i64 2, .string ⟨⟨[97]⟩⟩])] ?_
  have q11515 : RCs (α := api_Edit) Z [.int .i64 2, .int .i64 2, .string ⟨⟨[97]⟩⟩, .int .i64 2, .int .i64 2, .string ⟨⟨[98]⟩⟩] [(⟨2, 2, (⟨[97]⟩ : Str)⟩ : api_Edit), (⟨2, 2, (⟨[98]⟩ : Str)⟩ : api_Edit)] := RCs.cons (cs := [.int .i64 2, .int .i64 2, .string ⟨⟨[97]⟩⟩]) rfl (RCs.cons (cs := [.int .i64 2, .int .i64 2, .string ⟨⟨[98]⟩⟩]) rfl (RCs.nil0 _))
  refine r_row rfl trivial (o_bs (cells := [.int .i64 2, .int .i64 2, .string ⟨⟨[97]⟩⟩, .int .i64 2, .int .i64 2, .string ⟨⟨[98]⟩⟩]) (s := 3) (by kernel_rfl)) (by kernel_rfl) hS ?_
  intro v11512 h11513 hS11514
  replace hS11514 : St _ _ _ _ _ _ [.gs v11512 [.int .i64 2, .int .i64 2, .string ⟨⟨[97]⟩⟩, .int .i64 2, .int .i64 2, .string ⟨⟨[98]⟩⟩] (csz api_Edit)] := hS11514
  obtain ⟨Z11517, hZ11518, q11519, hS11520⟩ := (hS11514.front 0 rfl).freeze q11515
  replace hS11520 : St _ _ _ _ _ _ [] := hS11520
  obtain ⟨r11521, hx11522, hm⟩ := obind hm
  have hSr11528 : St _ _ _ _ _ _ ([] ++ []) := hS11520
  obtain ⟨v11523, h11524, Z11529, A11531, hcl11525, hSc11526, v11533, c11534, rfl, rfl, q11532⟩ := edit_Choose_ok F hSr11528.preL q11519 hx11522
  have hS11527 := hSr11528.call hSc11526
  have hZ11530 := hSc11526.zle
  replace hS11527 : St _ _ _ _ _ _ [.gs v11533 c11534 (csz api_Edit)] := hS11527
  refine r_step rfl trivial (o_call hcl11525 rfl rfl rfl) ?_
  refine xe 1 [(1, v11533)] ?_
  refine sr r12_2 ?_
  refine xq 1 [(6, v11533), (1, v11533)] ?_
  refine r_step rfl trivial (o_len rfl (hS11527.glen (i := 0) rfl q11532) ⟨_, Go.Proofs.Try.underlying22⟩) ?_
  rcases ifs hm with ⟨hp11535, hm⟩ | ⟨hp11535, hm⟩
  refine r_step rfl trivial (o_cmp rfl rfl (c_eql_T hp11535)) ?_
  refine xq 2 [(10, v11533), (9, .bool true)] ?_
  obtain ⟨hc11536, hm⟩ := chk hm
  refine r_step rfl rfl (o_index rfl rfl (by kernel_rfl : slTy _ _ = some (csz api_Edit)) (hS11527.gbased (j := 0) rfl q11532 (by omega)) hc11536.1 hc11536.2) ?_
  refine xq 1 [(12, .pointer (some (elemA v11533 0 (csz api_Edit) 2))), (9, .bool true)] ?_
  obtain ⟨x11537, hx11538, hm⟩ := obind hm
  obtain ⟨cs11539, hc11540, he11541, ht11542⟩ := hS11527.gel (j := 0) rfl q11532 (i := 0) hx11538
  obtain rfl := rc_api_Edit hc11540
  refine r_step rfl rfl (o_lde (w := .string ⟨⟨x11537.Put.b⟩⟩) he11541 rfl (by kernel_rfl)) ?_
  rcases ifs hm with ⟨hp11543, hm⟩ | ⟨hp11543, hm⟩
  refine r_step rfl rfl (o_cmp rfl rfl (c_seql_T (a := x11537.Put) (b := (⟨[97]⟩ : Str)) hp11543)) ?_
  refine xe 2 [(0, .bool true)] ?_
  refine rt ?_
  refine ⟨rfl, ?_⟩
  obtain rfl := Option.some.inj hm
  refine ⟨_, _, _, ResL.tmp rfl (ResL.nil), hS11527, ?_⟩
  exact rfl
  refine r_step rfl rfl (o_cmp rfl rfl (c_seql_F (a := x11537.Put) (b := (⟨[97]⟩ : Str)) hp11543)) ?_
  refine xe 2 [(0, .bool false)] ?_
  refine rt ?_
  refine ⟨rfl, ?_⟩
  obtain rfl := Option.some.inj hm
  refine ⟨_, _, _, ResL.tmp rfl (ResL.nil), hS11527, ?_⟩
  exact rfl
  refine r_step rfl trivial (o_cmp rfl rfl (c_eql_F hp11535)) ?_
  refine xe 8 [(0, .bool false)] ?_
  refine rt ?_
  refine ⟨rfl, ?_⟩
  obtain rfl := Option.some.inj hm
  refine ⟨_, _, _, ResL.tmp rfl (ResL.nil), hS11527, ?_⟩
  exact rfl

end Go.Proofs.Ytdajldmgdpggkaa.M
