/- Printed by a program of this session: Go functions as Lean functions over plain data, and that the calls come to them. -/
import Derived.Test.YtdajldmgdpggkaaSyJ
import Derived.Test.YtdajldmgdpggkaaChecked
import Derived.KernelRfl
import Derived.Test.YtdajldmgdpggkaaMC0
namespace Go.Proofs.Ytdajldmgdpggkaa.M
open Go Am Sy
open Sy.Cell (rc)
set_option linter.unusedVariables false
set_option linter.unusedSimpArgs false
set_option maxRecDepth 20000

def r10_0 : List COp := [u 6 (.assign (.const (.bool false)))]
def r10_1 : List COp := [u 11 (cf 12 #[] #[]), u 12 (.unOp .not 4 (t 11))]
def r10_2 : List COp := [u 6 (.assign (.const (.bool false)))]
def r10_3 : List COp := [u 13 (.move (t 0)), u 14 (cb .len #[(t 13)] #[35]), u 15 (.binOp .gtr 3 (t 14) (ci 100) 3)]
def r10_4 : List COp := [u 6 (.assign (.const (.bool true)))]
def r10_5 : List COp := [u 16 (.move (t 1)), u 17 (.move (t 0)), u 18 (cb .len #[(t 17)] #[35]), u 19 (.binOp .add 3 (t 18) (ci 1) 3), u 20 (cf 14 #[(t 16), (t 19)] #[3, 3]), u 1 (.assign (t 20))]
def r10_6 : List COp := [u 21 (.move (t 1)), u 22 (.move (t 2)), u 23 (.move (t 0)), u 24 (cb .len #[(t 23)] #[35]), u 25 (.move (t 1)), u 26 (.binOp .sub 3 (t 24) (t 25) 3), u 27 (.binOp .add 3 (t 26) (ci 1) 3), u 28 (cf 14 #[(t 22), (t 27)] #[3, 3]), u 29 (.binOp .add 3 (t 21) (t 28) 3), u 2 (.assign (t 29))]
def r10_7 : List COp := [u 31 (.move (t 0)), u 32 (cf 21 #[(t 31), (.const (.slice none 0 0))] #[35, 22]), u 30 (.move (t 32)), u 33 (.extract (t 30) 0), u 34 (.extract (t 30) 1), u 7 (.assign (t 33)), u 8 (.assign (t 34))]
def r10_8 : List COp := [u 36 (.move (t 0)), u 37 (.move (t 1)), u 38 (.move (t 2)), u 39 (.move (t 0)), u 40 (.move (t 1)), u 41 (.move (t 2)), u 42 (.slice 35 (t 39) (some (t 40)) (some (t 41)) none), u 43 (.convert 35 9 (t 42)), u 44 (.build 29 #[(0, (t 37)), (1, (t 38)), (2, (t 43))]), u 45 (.buildSlice 22 1 #[(0, (t 44))]), u 46 (cf 21 #[(t 36), (t 45)] #[35, 22]), u 35 (.move (t 46)), u 47 (.extract (t 35) 0), u 48 (.extract (t 35) 1), u 9 (.assign (t 47)), u 10 (.assign (t 48))]
def r10_9 : List COp := [u 49 (.move (t 8)), u 50 (.binOp .eql 32 (t 49) (ci 0) 32), u 51 (.move (t 50)), gT 51 (some 52) (.move (t 10)), gT 51 (some 53) (.binOp .eql 32 (t 52) (ci 0) 32), u 54 (.pick (t 51) (t 53) (.const (.bool false))), u 55 (.move (t 54)), gT 55 (some 56) (.move (t 7)), gT 55 (some 57) (.convert 35 9 (t 56)), gT 55 (some 58) (.move (t 0)), gT 55 (some 59) (.convert 35 9 (t 58)), gT 55 (some 60) (.binOp .eql 9 (t 57) (t 59) 9), u 61 (.pick (t 55) (t 60) (.const (.bool false))), u 62 (.move (t 61)), gT 62 (some 63) (.move (t 9)), gT 62 (some 64) (.convert 35 9 (t 63)), gT 62 (some 65) (.move (t 0)), gT 62 (some 66) (.convert 35 9 (t 65)), gT 62 (some 67) (.binOp .eql 9 (t 64) (t 66) 9), u 68 (.pick (t 62) (t 67) (.const (.bool false))), u 69 (.move (t 68)), gT 69 (some 70) (.move (t 2)), gT 69 (some 71) (cf 24 #[(.const (.slice none 0 0)), (t 70)] #[22, 3]), gT 69 (some 72) (.move (t 2)), gT 69 (some 73) (.binOp .eql 3 (t 71) (t 72) 3), u 74 (.pick (t 69) (t 73) (.const (.bool false))), u 6 (.assign (t 74))]
def correctorlaw4_EditNone (F : Nat) (a0 : List UInt8) (a1 : Int) (a2 : Int) : Option Bool :=
  (correctorlaw4_known F).bind fun r14811 =>
  if r14811 = true then
    if (100 : Int) < (a0.length : Int) then
      some true
    else
      (correctorlaw4_within F a1 (w64 ((a0.length : Int) + 1))).bind fun r14822 =>
      (correctorlaw4_within F a2 (w64 ((w64 ((a0.length : Int) - r14822)) + 1))).bind fun r14829 =>
      (edit_Apply F a0 []).bind fun r14836 =>
      if 0 ≤ r14822 ∧ r14822 ≤ (w64 (r14822 + r14829)) ∧ (w64 (r14822 + r14829)) ≤ (a0.length : Int) then
        (edit_Apply F a0 [(⟨r14822, w64 (r14822 + r14829), (⟨(a0.take (w64 (r14822 + r14829)).toNat).drop r14822.toNat⟩ : Str)⟩ : api_Edit)]).bind fun r14863 =>
        if r14836.2 = (0 : Int) then
          if r14863.2 = (0 : Int) then
            if (⟨r14836.1⟩ : Str) = (⟨a0⟩ : Str) then
              if (⟨r14863.1⟩ : Str) = (⟨a0⟩ : Str) then
                (edit_Map F [] (w64 (r14822 + r14829))).bind fun r14881 =>
                if r14881 = (w64 (r14822 + r14829)) then
                  some true
                else
                  some false
              else
                some false
            else
              some false
          else
            some false
        else
          some false
      else none
  else
    some false
theorem correctorlaw4_EditNone_ok (F : Nat) {h : AH} {Z : Zn} {a0 : List UInt8} {a1 : Int} {a2 : Int} {v14700 : Value} (hI : Inv Z h) (q14699 : RS (α := UInt8) Z v14700 a0) {r : Bool} (hm : correctorlaw4_EditNone F a0 a1 a2 = some r) :
    ∃ v h', callI Go.Proofs.Try.prog 10 [v14700, .int .i64 a1, .int .i64 a2] h = some (v, h') ∧ St h [] Z (0, 0) Z h' [] ∧ v = .bool r := by
  refine fn_plain (Q := fun v => v = .bool r) Go.Proofs.Try.func10 rfl rfl hI ?_
  intro hs hS
  unfold correctorlaw4_EditNone at hm
  refine sr r10_0 ?_
  refine xe 1 [(0, v14700), (1, .int .i64 a1), (2, .int .i64 a2)] ?_
  refine sq ?_
  refine sr r10_1 ?_
  obtain ⟨r14811, hx14812, hm⟩ := obind hm
  obtain ⟨v14813, h14814, hcl14815, hSc14816, rfl⟩ := correctorlaw4_known_ok F hS.inv  hx14812
  have hS14817 := St.call (A := []) (B := []) hS hSc14816
  replace hS14817 : St _ _ _ _ _ _ [] := hS14817
  refine r_step rfl trivial (o_call hcl14815 rfl rfl rfl) ?_
  rcases ifs hm with ⟨hp14818, hm⟩ | ⟨hp14818, hm⟩
  refine r_setb (t := 11) rfl hp14818 ?_
  refine xe 1 [(12, .bool false), (0, v14700), (1, .int .i64 a1), (2, .int .i64 a2)] ?_
  refine kF 12 rfl ?_
  refine sq ?_
  refine sr r10_3 ?_
  refine xq 1 [(13, v14700), (0, v14700), (1, .int .i64 a1), (2, .int .i64 a2)] ?_
  refine r_step rfl trivial (o_len rfl (RS.len q14699) ⟨_, Go.Proofs.Try.underlying35⟩) ?_
  rcases ifs hm with ⟨hp14821, hm⟩ | ⟨hp14821, hm⟩
  refine r_step rfl trivial (o_cmp rfl rfl (c_gtr_T hp14821)) ?_
  refine xf [(15, .bool true), (0, v14700), (1, .int .i64 a1), (2, .int .i64 a2)] ?_
  refine cT 15 rfl ?_
  refine sr r10_4 ?_
  refine xe 1 [(6, .bool true)] ?_
  refine rt ?_
  refine ⟨rfl, ?_⟩
  obtain rfl := Option.some.inj hm
  refine ⟨_, _, _, ResL.tmp rfl (ResL.nil), hS14817, ?_⟩
  exact rfl
  refine r_step rfl trivial (o_cmp rfl rfl (c_gtr_F hp14821)) ?_
  refine xf [(15, .bool false), (0, v14700), (1, .int .i64 a1), (2, .int .i64 a2)] ?_
  refine kF 15 rfl ?_
  refine sr r10_5 ?_
  refine xq 2 [(17, v14700), (16, .int .i64 a1), (0, v14700), (1, .int .i64 a1), (2, .int .i64 a2)] ?_
  refine r_step rfl trivial (o_len rfl (RS.len q14699) ⟨_, Go.Proofs.Try.underlying35⟩) ?_
  refine xq 1 [(19, .int .i64 (w64 ((a0.length : Int) + 1))), (16, .int .i64 a1), (0, v14700), (1, .int .i64 a1), (2, .int .i64 a2)] ?_
  obtain ⟨r14822, hx14823, hm⟩ := obind hm
  obtain ⟨v14824, h14825, hcl14826, hSc14827, rfl⟩ := correctorlaw4_within_ok F hS14817.inv  hx14823
  have hS14828 := St.call (A := []) (B := []) hS14817 hSc14827
  replace hS14828 : St _ _ _ _ _ _ [] := hS14828
  refine r_step rfl trivial (o_call hcl14826 rfl rfl rfl) ?_
  refine xe 1 [(1, .int .i64 r14822), (0, v14700), (2, .int .i64 a2)] ?_
  refine sr r10_6 ?_
  refine xq 3 [(23, v14700), (22, .int .i64 a2), (21, .int .i64 r14822), (1, .int .i64 r14822), (0, v14700), (2, .int .i64 a2)] ?_
  refine r_step rfl trivial (o_len rfl (RS.len q14699) ⟨_, Go.Proofs.Try.underlying35⟩) ?_
  refine xq 3 [(27, .int .i64 (w64 ((w64 ((a0.length : Int) - r14822)) + 1))), (22, .int .i64 a2), (21, .int .i64 r14822), (1, .int .i64 r14822), (0, v14700), (2, .int .i64 a2)] ?_
  obtain ⟨r14829, hx14830, hm⟩ := obind hm
  obtain ⟨v14831, h14832, hcl14833, hSc14834, rfl⟩ := correctorlaw4_within_ok F hS14828.inv  hx14830
  have hS14835 := St.call (A := []) (B := []) hS14828 hSc14834
  replace hS14835 : St _ _ _ _ _ _ [] := hS14835
  refine r_step rfl trivial (o_call hcl14833 rfl rfl rfl) ?_
  refine xe 2 [(2, .int .i64 (w64 (r14822 + r14829))), (1, .int .i64 r14822), (0, v14700)] ?_
  refine sr r10_7 ?_
  refine xq 1 [(31, v14700), (2, .int .i64 (w64 (r14822 + r14829))), (1, .int .i64 r14822), (0, v14700)] ?_
  obtain ⟨r14836, hx14837, hm⟩ := obind hm
  have hSr14843 : St _ _ _ _ _ _ ([] ++ []) := hS14835
  obtain ⟨v14838, h14839, Z14844, A14846, hcl14840, hSc14841, v14848, c14849, rfl, rfl, q14847⟩ := edit_Apply_ok F hSr14843.preL q14699 (RS.nil0 _) hx14837
  have hS14842 := hSr14843.call hSc14841
  have hZ14845 := hSc14841.zle
  replace hS14842 : St _ _ _ _ _ _ [.gs v14848 c14849 (csz UInt8)] := hS14842
  refine r_step rfl trivial (o_call hcl14840 rfl rfl rfl) ?_
  refine xe 5 [(8, .int .i64 r14836.2), (7, v14848), (2, .int .i64 (w64 (r14822 + r14829))), (1, .int .i64 r14822), (0, v14700)] ?_
  refine sr r10_8 ?_
  refine xq 6 [(41, .int .i64 (w64 (r14822 + r14829))), (40, .int .i64 r14822), (39, v14700), (38, .int .i64 (w64 (r14822 + r14829))), (37, .int .i64 r14822), (36, v14700), (8, .int .i64 r14836.2), (7, v14848), (2, .int .i64 (w64 (r14822 + r14829))), (0, v14700)] ?_
  obtain ⟨hc14853, hm⟩ := chk hm
  refine r_exv rfl trivial (o_slice (a := r14822) (b := w64 (r14822 + r14829)) (q14699.mono hZ14845) rfl (by kernel_rfl : slTy _ _ = some (csz UInt8)) ⟨_, rfl⟩ ⟨_, rfl⟩ hc14853.1 hc14853.2.1 hc14853.2.2) ?_
  intro v14850 q14851
  refine r_step rfl trivial (o_tostr q14851 hS14842.inv rfl (by kernel_rfl)) ?_
  refine xq 1 [(44, .agg #[.int .i64 r14822, .int .i64 (w64 (r14822 + r14829)), .string ⟨⟨(a0.take (w64 (r14822 + r14829)).toNat).drop r14822.toNat⟩⟩]), (36, v14700), (8, .int .i64 r14836.2), (7, v14848), (2, .int .i64 (w64 (r14822 + r14829))), (0, v14700)] ?_
  have q14857 : RCs (α := api_Edit) Z14844 [.int .i64 r14822, .int .i64 (w64 (r14822 + r14829)), .string ⟨⟨(a0.take (w64 (r14822 + r14829)).toNat).drop r14822.toNat⟩⟩] [(⟨r14822, w64 (r14822 + r14829), (⟨(a0.take (w64 (r14822 + r14829)).toNat).drop r14822.toNat⟩ : Str)⟩ : api_Edit)] := RCs.cons (cs := [.int .i64 r14822, .int .i64 (w64 (r14822 + r14829)), .string ⟨⟨(a0.take (w64 (r14822 + r14829)).toNat).drop r14822.toNat⟩⟩]) rfl (RCs.nil0 _)
  refine r_row rfl trivial (o_bs (cells := [.int .i64 r14822, .int .i64 (w64 (r14822 + r14829)), .string ⟨⟨(a0.take (w64 (r14822 + r14829)).toNat).drop r14822.toNat⟩⟩]) (s := 3) (by kernel_rfl)) (by kernel_rfl) hS14842 ?_
  intro v14854 h14855 hS14856
  replace hS14856 : St _ _ _ _ _ _ [.gs v14854 [.int .i64 r14822, .int .i64 (w64 (r14822 + r14829)), .string ⟨⟨(a0.take (w64 (r14822 + r14829)).toNat).drop r14822.toNat⟩⟩] (csz api_Edit), .gs v14848 c14849 (csz UInt8)] := hS14856
  obtain ⟨Z14859, hZ14860, q14861, hS14862⟩ := (hS14856.front 0 rfl).freeze q14857
  replace hS14862 : St _ _ _ _ _ _ [.gs v14848 c14849 (csz UInt8)] := hS14862
  obtain ⟨r14863, hx14864, hm⟩ := obind hm
  have hSr14870 : St _ _ _ _ _ _ ([] ++ [.gs v14848 c14849 (csz UInt8)]) := hS14862
  obtain ⟨v14865, h14866, Z14871, A14873, hcl14867, hSc14868, v14875, c14876, rfl, rfl, q14874⟩ := edit_Apply_ok F hSr14870.preL (q14699.mono (hZ14845.trans hZ14860)) q14861 hx14864
  have hS14869 := hSr14870.call hSc14868
  have hZ14872 := hSc14868.zle
  replace hS14869 : St _ _ _ _ _ _ [.gs v14875 c14876 (csz UInt8), .gs v14848 c14849 (csz UInt8)] := hS14869
  refine r_step rfl trivial (o_call hcl14867 rfl rfl rfl) ?_
  refine xe 5 [(10, .int .i64 r14863.2), (9, v14875), (8, .int .i64 r14836.2), (7, v14848), (2, .int .i64 (w64 (r14822 + r14829))), (0, v14700)] ?_
  refine sr r10_9 ?_
  refine xq 1 [(49, .int .i64 r14836.2), (10, .int .i64 r14863.2), (9, v14875), (7, v14848), (2, .int .i64 (w64 (r14822 + r14829))), (0, v14700)] ?_
  rcases ifs hm with ⟨hp14877, hm⟩ | ⟨hp14877, hm⟩
  refine r_step rfl trivial (o_cmp rfl rfl (c_eql_T hp14877)) ?_
  refine xq 2 [(52, .int .i64 r14863.2), (51, .bool true), (9, v14875), (7, v14848), (2, .int .i64 (w64 (r14822 + r14829))), (0, v14700)] ?_
  rcases ifs hm with ⟨hp14878, hm⟩ | ⟨hp14878, hm⟩
  refine r_step rfl rfl (o_cmp rfl rfl (c_eql_T hp14878)) ?_
  refine xq 3 [(56, v14848), (55, .bool true), (9, v14875), (2, .int .i64 (w64 (r14822 + r14829))), (0, v14700)] ?_
  refine r_step rfl rfl (o_tostrG hS14869 (j := 1) rfl (q14847.mono (hZ14860.trans hZ14872)) rfl (by kernel_rfl)) ?_
  refine xq 1 [(58, v14700), (57, .string ⟨⟨r14836.1⟩⟩), (55, .bool true), (9, v14875), (2, .int .i64 (w64 (r14822 + r14829))), (0, v14700)] ?_
  refine r_step rfl rfl (o_tostr (q14699.mono (hZ14845.trans (hZ14860.trans hZ14872))) hS14869.inv rfl (by kernel_rfl)) ?_
  rcases ifs hm with ⟨hp14879, hm⟩ | ⟨hp14879, hm⟩
  refine r_step rfl rfl (o_cmp rfl rfl (c_seql_T (a := (⟨r14836.1⟩ : Str)) (b := (⟨a0⟩ : Str)) hp14879)) ?_
  refine xq 3 [(63, v14875), (62, .bool true), (2, .int .i64 (w64 (r14822 + r14829))), (0, v14700)] ?_
  refine r_step rfl rfl (o_tostrG hS14869 (j := 0) rfl q14874 rfl (by kernel_rfl)) ?_
  refine xq 1 [(65, v14700), (64, .string ⟨⟨r14863.1⟩⟩), (62, .bool true), (2, .int .i64 (w64 (r14822 + r14829)))] ?_
  refine r_step rfl rfl (o_tostr (q14699.mono (hZ14845.trans (hZ14860.trans hZ14872))) hS14869.inv rfl (by kernel_rfl)) ?_
  rcases ifs hm with ⟨hp14880, hm⟩ | ⟨hp14880, hm⟩
  refine r_step rfl rfl (o_cmp rfl rfl (c_seql_T (a := (⟨r14863.1⟩ : Str)) (b := (⟨a0⟩ : Str)) hp14880)) ?_
  refine xq 3 [(70, .int .i64 (w64 (r14822 + r14829))), (69, .bool true), (2, .int .i64 (w64 (r14822 + r14829)))] ?_
  obtain ⟨r14881, hx14882, hm⟩ := obind hm
  obtain ⟨v14883, h14884, hcl14885, hSc14886, rfl⟩ := edit_Map_ok F hS14869.inv (RS.nil0 _) hx14882
  have hS14887 := St.call (A := []) (B := [.gs v14875 c14876 (csz UInt8), .gs v14848 c14849 (csz UInt8)]) hS14869 hSc14886
  replace hS14887 : St _ _ _ _ _ _ [.gs v14875 c14876 (csz UInt8), .gs v14848 c14849 (csz UInt8)] := hS14887
  refine r_step rfl rfl (o_call hcl14885 rfl rfl rfl) ?_
  refine xq 1 [(72, .int .i64 (w64 (r14822 + r14829))), (71, .int .i64 r14881), (69, .bool true)] ?_
  rcases ifs hm with ⟨hp14888, hm⟩ | ⟨hp14888, hm⟩
  refine r_step rfl rfl (o_cmp rfl rfl (c_eql_T hp14888)) ?_
  refine xe 2 [(6, .bool true)] ?_
  refine rt ?_
  refine ⟨rfl, ?_⟩
  obtain rfl := Option.some.inj hm
  refine ⟨_, _, _, ResL.tmp rfl (ResL.nil), hS14887, ?_⟩
  exact rfl
  refine r_step rfl rfl (o_cmp rfl rfl (c_eql_F hp14888)) ?_
  refine xe 2 [(6, .bool false)] ?_
  refine rt ?_
  refine ⟨rfl, ?_⟩
  obtain rfl := Option.some.inj hm
  refine ⟨_, _, _, ResL.tmp rfl (ResL.nil), hS14887, ?_⟩
  exact rfl
  refine r_step rfl rfl (o_cmp rfl rfl (c_seql_F (a := (⟨r14863.1⟩ : Str)) (b := (⟨a0⟩ : Str)) hp14880)) ?_
  refine xe 8 [(6, .bool false)] ?_
  refine rt ?_
  refine ⟨rfl, ?_⟩
  obtain rfl := Option.some.inj hm
  refine ⟨_, _, _, ResL.tmp rfl (ResL.nil), hS14869, ?_⟩
  exact rfl
  refine r_step rfl rfl (o_cmp rfl rfl (c_seql_F (a := (⟨r14836.1⟩ : Str)) (b := (⟨a0⟩ : Str)) hp14879)) ?_
  refine xe 15 [(6, .bool false)] ?_
  refine rt ?_
  refine ⟨rfl, ?_⟩
  obtain rfl := Option.some.inj hm
  refine ⟨_, _, _, ResL.tmp rfl (ResL.nil), hS14869, ?_⟩
  exact rfl
  refine r_step rfl rfl (o_cmp rfl rfl (c_eql_F hp14878)) ?_
  refine xe 22 [(6, .bool false)] ?_
  refine rt ?_
  refine ⟨rfl, ?_⟩
  obtain rfl := Option.some.inj hm
  refine ⟨_, _, _, ResL.tmp rfl (ResL.nil), hS14869, ?_⟩
  exact rfl
  refine r_step rfl trivial (o_cmp rfl rfl (c_eql_F hp14877)) ?_
  refine xe 25 [(6, .bool false)] ?_
  refine rt ?_
  refine ⟨rfl, ?_⟩
  obtain rfl := Option.some.inj hm
  refine ⟨_, _, _, ResL.tmp rfl (ResL.nil), hS14869, ?_⟩
  exact rfl
  refine r_setb (t := 11) rfl (Bool.eq_false_iff.2 hp14818) ?_
  refine xe 1 [(12, .bool true), (0, v14700), (1, .int .i64 a1), (2, .int .i64 a2)] ?_
  refine cT 12 rfl ?_
  refine sr r10_2 ?_
  refine xe 1 [(6, .bool false)] ?_
  refine rt ?_
  refine ⟨rfl, ?_⟩
  obtain rfl := Option.some.inj hm
  refine ⟨_, _, _, ResL.tmp rfl (ResL.nil), hS14817, ?_⟩
  exact rfl

end Go.Proofs.Ytdajldmgdpggkaa.M
