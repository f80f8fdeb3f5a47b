/- Printed by a program of this session: Go functions as Lean functions over plain data, and that the calls come to them. -/
import Derived.Test.YtpijjenaadkjdaaSyK
import Derived.Test.YtpijjenaadkjdaaChecked
import Derived.KernelRfl
import Derived.Test.YtpijjenaadkjdaaMK0
namespace Go.Proofs.Ytpijjenaadkjdaa.M
open Go Am Sy
open Sy.Cell (rc)
set_option linter.unusedVariables false
set_option linter.unusedSimpArgs false
set_option maxRecDepth 20000

def r6_0 : List COp := [u 12 (.assign (.const (.bool false)))]
def r6_1 : List COp := [u 18 (cf 8 #[] #[]), u 19 (.unOp .not 4 (t 18))]
def r6_2 : List COp := [u 12 (.assign (.const (.bool false)))]
def r6_3 : List COp := [u 20 (.move (t 2)), u 21 (cf 19 #[(t 20)] #[25]), u 22 (.unOp .not 4 (t 21))]
def r6_4 : List COp := [u 12 (.assign (.const (.bool true)))]
def r6_5 : List COp := [u 23 (.move (t 0)), u 24 (cf 9 #[(t 23), (ci 40)] #[3, 3]), u 0 (.assign (t 24))]
def r6_6 : List COp := [u 25 (.move (t 0)), u 26 (cf 11 #[(t 25)] #[3]), u 13 (.alloc 29), o (.store 29 (t 13) (t 26))]
def r6_7 : List COp := [u 14 (.assign (ci 0))]
def r6_8 : List COp := [u 27 (.move (t 14)), u 28 (.move (t 1)), u 29 (cb .len #[(t 28)] #[22]), u 30 (.binOp .lss 3 (t 27) (t 29) 3), u 31 (.move (t 30)), gT 31 (some 32) (.move (t 14)), gT 31 (some 33) (.binOp .lss 3 (t 32) (ci 20) 3), u 34 (.pick (t 31) (t 33) (.const (.bool false)))]
def r6_9 : List COp := [u 35 (.move (t 14)), u 36 (.binOp .add 3 (t 35) (ci 1) 3), u 14 (.assign (t 36))]
def r6_10 : List COpF := [uF 38 (.load 29 (t 13)) .look [], uF 39 (.move (t 1)) .pure [], uF 40 (.move (t 14)) .pure [], uF 41 (.indexAddr 22 (t 39) (t 40)) .pure [], uF 42 (.fieldAddr 32 (t 41) 1) .pure [], uF 43 (.load 3 (t 42)) .look [], uF 44 (.fieldAddr 29 (t 13) 0) .pure [], uF 45 (.load 25 (t 44)) .look [], uF 46 (cb .len #[(t 45)] #[25]) .pure [], uF 47 (cf 9 #[(t 43), (t 46)] #[3, 3]) .make [5, 7], uF 48 (.move (t 1)) .pure [], uF 49 (.move (t 14)) .pure [], uF 50 (.indexAddr 22 (t 48) (t 49)) .pure [], uF 51 (.fieldAddr 32 (t 50) 3) .pure [], uF 52 (.load 3 (t 51)) .look [], uF 53 (.move (t 0)) .pure [], uF 54 (.binOp .add 3 (t 53) (ci 1) 3) .pure [], uF 55 (cf 9 #[(t 52), (t 54)] #[3, 3]) .make [5, 7, 14], uF 56 (.move (t 1)) .pure [], uF 57 (.move (t 14)) .pure [], uF 58 (.indexAddr 22 (t 56) (t 57)) .pure [], uF 59 (.fieldAddr 32 (t 58) 3) .pure [], uF 60 (.load 3 (t 59)) .look [], uF 61 (.move (t 0)) .pure [], uF 62 (.binOp .add 3 (t 61) (ci 1) 3) .pure [], uF 63 (cf 9 #[(t 60), (t 62)] #[3, 3]) .make [5, 7, 14, 22], uF 64 (.move (t 1)) .pure [], uF 65 (.move (t 14)) .pure [], uF 66 (.indexAddr 22 (t 64) (t 65)) .pure [], uF 67 (.fieldAddr 32 (t 66) 4) .pure [], uF 68 (.load 3 (t 67)) .look [], uF 69 (cf 9 #[(t 68), (ci 5)] #[3, 3]) .make [5, 7, 14, 22, 30], uF 70 (.binOp .add 3 (t 63) (t 69) 3) .pure [], uF 71 (cf 15 #[(t 38), (t 47), (ci 3), (t 55), (t 70)] #[29, 3, 3, 3, 3]) .make [0, 5, 7, 14, 22, 30], uF 37 (.move (t 71)) .pure [], uF 72 (.extract (t 37) 0) .pure [], uF 73 (.extract (t 37) 1) .pure [], oF (.store 29 (t 13) (t 72)) .make [0, 5, 7, 14, 22, 30]]
def r6_11 : List COpF := [uF 74 (.load 29 (t 13)) .look [], uF 75 (cf 21 #[(t 74)] #[29]) .make [0], uF 76 (.move (t 0)) .pure [], uF 77 (cf 20 #[(t 75), (t 76)] #[27, 3]) .make [0], uF 78 (.load 29 (t 13)) .look [], uF 79 (.move (t 0)) .pure [], uF 80 (cf 22 #[(t 78), (t 79)] #[29, 3]) .make [0, 4], uF 81 (.binOp .neq 4 (t 77) (t 80) 4) .pure [], uF 82 (.move (t 81)) .pure [], gNF 82 (some 83) (.move (t 2)) .pure [], gNF 82 (some 84) (.build 27 #[(0, (t 83))]) .pure [], gNF 82 (some 85) (.move (t 0)) .pure [], gNF 82 (some 86) (cf 20 #[(t 84), (t 85)] #[27, 3]) .make [0, 4], gNF 82 (some 87) (.move (t 2)) .pure [], gNF 82 (some 88) (.build 29 #[(0, (t 87))]) .pure [], gNF 82 (some 89) (.move (t 0)) .pure [], gNF 82 (some 90) (cf 22 #[(t 88), (t 89)] #[29, 3]) .make [0, 4], gNF 82 (some 91) (.binOp .neq 4 (t 86) (t 90) 4) .pure [], uF 92 (.pick (t 82) (.const (.bool true)) (t 91)) .pure []]
def r6_12 : List COp := [u 12 (.assign (.const (.bool false)))]
def r6_13 : List COp := [u 93 (.load 29 (t 13)), u 94 (cf 12 #[(t 93), (ci 0), (ci 0)] #[29, 3, 3]), u 15 (.alloc 29), o (.store 29 (t 15) (t 94))]
def r6_14 : List COp := [u 95 (.move (t 4)), u 96 (.fieldAddr 29 (t 15) 0), u 97 (.load 25 (t 96)), u 98 (cb .len #[(t 97)] #[25]), u 99 (cf 9 #[(t 95), (t 98)] #[3, 3]), u 16 (.assign (t 99))]
def r6_15 : List COp := [u 100 (.move (t 3)), u 101 (cf 9 #[(t 100), (ci 7)] #[3, 3])]
def r6_16 : List COp := [u 103 (.binOp .eql 3 (t 101) (ci 0) 3), u 102 (.assign (t 103))]
def r6_17 : List COpF := [uF 104 (.fieldAddr 29 (t 15) 0) .pure [], uF 105 (.load 25 (t 104)) .look [], uF 106 (.move (t 16)) .pure [], uF 107 (.fieldAddr 29 (t 15) 0) .pure [], uF 108 (.load 25 (t 107)) .look [], uF 109 (.move (t 16)) .pure [], uF 110 (.indexAddr 25 (t 108) (t 109)) .pure [], uF 111 (.fieldAddr 46 (t 110) 1) .pure [], uF 112 (.load 3 (t 111)) .look [], uF 113 (.move (t 5)) .pure [], uF 114 (cf 9 #[(t 113), (ci 3)] #[3, 3]) .make [], uF 115 (.binOp .add 3 (t 112) (t 114) 3) .pure [], uF 116 (.binOp .sub 3 (t 115) (ci 1) 3) .pure [], uF 117 (.indexAddr 25 (t 105) (t 106)) .pure [], uF 118 (.fieldAddr 46 (t 117) 1) .pure [], oF (.store 3 (t 118) (t 116)) .make [1, 4, 8]]
def r6_18 : List COp := [u 120 (.binOp .eql 3 (t 101) (ci 1) 3), u 119 (.assign (t 120))]
def r6_19 : List COpF := [uF 121 (.fieldAddr 29 (t 15) 0) .pure [], uF 122 (.load 25 (t 121)) .look [], uF 123 (.move (t 16)) .pure [], uF 124 (.fieldAddr 29 (t 15) 0) .pure [], uF 125 (.load 25 (t 124)) .look [], uF 126 (.move (t 16)) .pure [], uF 127 (.indexAddr 25 (t 125) (t 126)) .pure [], uF 128 (.fieldAddr 46 (t 127) 2) .pure [], uF 129 (.load 3 (t 128)) .look [], uF 130 (.move (t 5)) .pure [], uF 131 (cf 9 #[(t 130), (ci 3)] #[3, 3]) .make [], uF 132 (.binOp .add 3 (t 129) (t 131) 3) .pure [], uF 133 (.binOp .sub 3 (t 132) (ci 1) 3) .pure [], uF 134 (.indexAddr 25 (t 122) (t 123)) .pure [], uF 135 (.fieldAddr 46 (t 134) 2) .pure [], oF (.store 3 (t 135) (t 133)) .make [1, 4, 8]]
def r6_20 : List COp := [u 137 (.binOp .eql 3 (t 101) (ci 2) 3), u 136 (.assign (t 137))]
def r6_21 : List COpF := [uF 138 (.fieldAddr 29 (t 15) 0) .pure [], uF 139 (.load 25 (t 138)) .look [], uF 140 (.move (t 16)) .pure [], uF 141 (.move (t 5)) .pure [], uF 142 (.fieldAddr 29 (t 15) 0) .pure [], uF 143 (.load 25 (t 142)) .look [], uF 144 (cb .len #[(t 143)] #[25]) .pure [], uF 145 (.binOp .add 3 (t 144) (ci 2) 3) .pure [], uF 146 (cf 9 #[(t 141), (t 145)] #[3, 3]) .make [5], uF 147 (.binOp .sub 3 (t 146) (ci 1) 3) .pure [], uF 148 (.indexAddr 25 (t 139) (t 140)) .pure [], uF 149 (.fieldAddr 46 (t 148) 3) .pure [], oF (.store 3 (t 149) (t 147)) .make [1, 5]]
def r6_22 : List COp := [u 151 (.binOp .eql 3 (t 101) (ci 3) 3), u 150 (.assign (t 151))]
def r6_23 : List COpF := [uF 152 (.fieldAddr 29 (t 15) 0) .pure [], uF 153 (.load 25 (t 152)) .look [], uF 154 (.move (t 16)) .pure [], uF 155 (.fieldAddr 29 (t 15) 0) .pure [], uF 156 (.load 25 (t 155)) .look [], uF 157 (.move (t 16)) .pure [], uF 158 (.indexAddr 25 (t 156) (t 157)) .pure [], uF 159 (.fieldAddr 46 (t 158) 4) .pure [], uF 160 (.load 44 (t 159)) .look [], uF 161 (.move (t 5)) .pure [], uF 162 (.fieldAddr 29 (t 15) 0) .pure [], uF 163 (.load 25 (t 162)) .look [], uF 164 (cb .len #[(t 163)] #[25]) .pure [], uF 165 (.binOp .add 3 (t 164) (ci 1) 3) .pure [], uF 166 (cf 9 #[(t 161), (t 165)] #[3, 3]) .make [11], uF 167 (.buildSlice 44 1 #[(0, (t 166))]) .fresh [], uF 168 (cb .append #[(t 160), (t 167)] #[44, 44]) .make [4, 8, 11], uF 169 (.indexAddr 25 (t 153) (t 154)) .pure [], uF 170 (.fieldAddr 46 (t 169) 4) .pure [], oF (.store 44 (t 170) (t 168)) .make [1, 4, 8, 11]]
def r6_24 : List COp := [u 172 (.binOp .eql 3 (t 101) (ci 4) 3), u 171 (.assign (t 172))]
def r6_25 : List COp := [u 173 (.fieldAddr 29 (t 15) 0), u 174 (.load 25 (t 173)), u 175 (.move (t 16)), u 176 (.indexAddr 25 (t 174) (t 175)), u 177 (.fieldAddr 46 (t 176) 4), u 178 (.load 44 (t 177)), u 179 (cb .len #[(t 178)] #[44]), u 17 (.assign (t 179))]
def r6_26 : List COp := [u 180 (.move (t 17)), u 181 (.binOp .gtr 3 (t 180) (ci 0) 3)]
def r6_27 : List COpF := [uF 182 (.fieldAddr 29 (t 15) 0) .pure [], uF 183 (.load 25 (t 182)) .look [], uF 184 (.move (t 16)) .pure [], uF 185 (.fieldAddr 29 (t 15) 0) .pure [], uF 186 (.load 25 (t 185)) .look [], uF 187 (.move (t 16)) .pure [], uF 188 (.indexAddr 25 (t 186) (t 187)) .pure [], uF 189 (.fieldAddr 46 (t 188) 4) .pure [], uF 190 (.load 44 (t 189)) .look [], uF 191 (.move (t 17)) .pure [], uF 192 (.binOp .sub 3 (t 191) (ci 1) 3) .pure [], uF 193 (.slice 44 (t 190) none (some (t 192)) none) .pure [], uF 194 (.indexAddr 25 (t 183) (t 184)) .pure [], uF 195 (.fieldAddr 46 (t 194) 4) .pure [], oF (.store 44 (t 195) (t 193)) .make [1, 4, 8]]
def r6_28 : List COp := [u 197 (.binOp .eql 3 (t 101) (ci 5) 3), u 196 (.assign (t 197))]
def r6_29 : List COp := [u 198 (.fieldAddr 29 (t 15) 0), u 199 (.load 25 (t 198)), u 200 (.move (t 16)), u 201 (.move (t 5)), u 202 (.indexAddr 25 (t 199) (t 200)), u 203 (.fieldAddr 46 (t 202) 0), o (.store 3 (t 203) (t 201))]
def r6_30 : List COp := [u 205 (.binOp .eql 3 (t 101) (ci 6) 3), u 204 (.assign (t 205))]
def r6_31 : List COpF := [uF 206 (.fieldAddr 29 (t 15) 0) .pure [], uF 207 (.load 25 (t 206)) .look [], uF 208 (.move (t 16)) .pure [], uF 209 (.fieldAddr 29 (t 15) 0) .pure [], uF 210 (.load 25 (t 209)) .look [], uF 211 (.move (t 16)) .pure [], uF 212 (.indexAddr 25 (t 210) (t 211)) .pure [], uF 213 (.fieldAddr 46 (t 212) 5) .pure [], uF 214 (.load 4 (t 213)) .look [], uF 215 (.unOp .not 4 (t 214)) .pure [], uF 216 (.indexAddr 25 (t 207) (t 208)) .pure [], uF 217 (.fieldAddr 46 (t 216) 5) .pure [], oF (.store 4 (t 217) (t 215)) .make [1, 4, 8]]
def r6_32 : List COpF := [uF 218 (.load 29 (t 15)) .look [], uF 219 (cf 21 #[(t 218)] #[29]) .make [0], uF 220 (.move (t 0)) .pure [], uF 221 (cf 20 #[(t 219), (t 220)] #[27, 3]) .make [0], uF 222 (.load 29 (t 15)) .look [], uF 223 (.move (t 0)) .pure [], uF 224 (cf 22 #[(t 222), (t 223)] #[29, 3]) .make [0, 4], uF 225 (.binOp .eql 4 (t 221) (t 224) 4) .pure [], uF 226 (.move (t 225)) .pure [], gTF 226 (some 227) (.load 29 (t 13)) .look [1, 3, 6], gTF 226 (some 228) (cf 21 #[(t 227)] #[29]) .make [0, 4, 9], gTF 226 (some 229) (.load 29 (t 15)) .look [1, 3, 6], gTF 226 (some 230) (cf 21 #[(t 229)] #[29]) .make [0, 4, 9, 11], gTF 226 (some 231) (cf 18 #[(t 228), (t 230)] #[27, 27]) .make [0, 4, 9, 11], gTF 226 (some 232) (.load 29 (t 13)) .look [1, 3, 6], gTF 226 (some 233) (.load 29 (t 15)) .look [1, 3, 6], gTF 226 (some 234) (cf 17 #[(t 232), (t 233)] #[29, 29]) .make [0, 4, 9, 11, 14, 15], gTF 226 (some 235) (.binOp .eql 4 (t 231) (t 234) 4) .pure [], uF 236 (.pick (t 226) (t 235) (.const (.bool false))) .pure [], uF 12 (.assign (t 236)) .pure []]
def correctorlaw10_ArenaChecks_l0 (F : Nat) (a0 : Int) (a1 : List correctorlaw10_Act) (a2 : List api_Node) (a3 : Int) (a4 : Int) (a5 : Int) : Nat → Int → (List api_Node) → Int → Option (Int × (List api_Node))
  | 0, _, _, _ => none
  | n + 1, x13617, x13619, x13622 =>
    if x13622 < (a1.length : Int) then
      if x13622 < (20 : Int) then
        if 0 ≤ x13622 ∧ x13622 < (a1.length : Int) then
          (a1[x13622.toNat]?).bind fun x13638 =>
          (correctorlaw10_within F x13638.A (x13619.length : Int)).bind fun r13645 =>
          if 0 ≤ x13622 ∧ x13622 < (a1.length : Int) then
            (a1[x13622.toNat]?).bind fun x13656 =>
            (correctorlaw10_within F x13656.C (w64 (x13617 + 1))).bind fun r13662 =>
            if 0 ≤ x13622 ∧ x13622 < (a1.length : Int) then
              (a1[x13622.toNat]?).bind fun x13673 =>
              (correctorlaw10_within F x13673.C (w64 (x13617 + 1))).bind fun r13679 =>
              if 0 ≤ x13622 ∧ x13622 < (a1.length : Int) then
                (a1[x13622.toNat]?).bind fun x13690 =>
                (correctorlaw10_within F x13690.D 5).bind fun r13696 =>
                (correctorref10_Add F (⟨x13619⟩ : correctorref10_Tree) r13645 3 r13662 (w64 (r13679 + r13696))).bind fun r13706 =>
                correctorlaw10_ArenaChecks_l0 F a0 a1 a2 a3 a4 a5 n x13617 r13706.1.Nodes (w64 (x13622 + 1))
              else none
            else none
          else none
        else none
      else
        some (x13617, x13619)
    else
      some (x13617, x13619)
def correctorlaw10_ArenaChecks (F : Nat) (a0 : Int) (a1 : List correctorlaw10_Act) (a2 : List api_Node) (a3 : Int) (a4 : Int) (a5 : Int) : Option Bool :=
  (correctorlaw10_known F).bind fun r13106 =>
  if r13106 = true then
    (correctorlaw10_Few F a2).bind fun r13130 =>
    if r13130 = true then
      (correctorlaw10_within F a0 40).bind fun r13138 =>
      (correctorref10_New F r13138).bind fun r13145 =>
      ((correctorlaw10_ArenaChecks_l0 F a0 a1 a2 a3 a4 a5 F r13138 r13145.Nodes 0) : Option (Int × (List api_Node))).bind fun o => match o with
        | (x13732, x13734) => (((correctorlaw10_Of F (⟨x13734⟩ : correctorref10_Tree)).bind fun r13847 =>
          (arena_Check F r13847 x13732).bind fun r13863 =>
          (correctorref10_Check F (⟨x13734⟩ : correctorref10_Tree) x13732).bind fun r13874 =>
          if r13863 = true then
            if r13874 = true then
              (arena_Check F (⟨a2⟩ : arena_Tree) x13732).bind fun r13886 =>
              (correctorref10_Check F (⟨a2⟩ : correctorref10_Tree) x13732).bind fun r13896 =>
              if r13886 = true then
                if r13896 = true then
                  some (.inl x13734)
                else
                  some (.inr false)
              else
                if r13896 = true then
                  some (.inr false)
                else
                  some (.inl x13734)
            else
              some (.inr false)
          else
            if r13874 = true then
              some (.inr false)
            else
              (arena_Check F (⟨a2⟩ : arena_Tree) x13732).bind fun r13916 =>
              (correctorref10_Check F (⟨a2⟩ : correctorref10_Tree) x13732).bind fun r13926 =>
              if r13916 = true then
                if r13926 = true then
                  some (.inl x13734)
                else
                  some (.inr false)
              else
                if r13926 = true then
                  some (.inr false)
                else
                  some (.inl x13734)) : Option (Sum (List api_Node) Bool)).bind fun o => match o with
          | .inl x13945 => (correctorref10_Grow F (⟨x13945⟩ : correctorref10_Tree) 0 0).bind fun r13950 =>
          (correctorlaw10_within F a4 (r13950.Nodes.length : Int)).bind fun r13970 =>
          (((correctorlaw10_within F a3 7).bind fun r14295 =>
            if r14295 = (0 : Int) then
              if 0 ≤ r13970 ∧ r13970 < (r13950.Nodes.length : Int) then
                (r13950.Nodes[r13970.toNat]?).bind fun x14311 =>
                (correctorlaw10_within F a5 3).bind fun r14323 =>
                if 0 ≤ r13970 ∧ r13970 < (r13950.Nodes.length : Int) then
                  (r13950.Nodes[r13970.toNat]?).bind fun x14334 =>
                  some (x13945, r13950.Nodes.set r13970.toNat (⟨x14334.Kind, w64 ((w64 (x14311.From + r14323)) - 1), x14334.To, x14334.Up, x14334.Kids, x14334.Key⟩ : api_Node))
                else none
              else none
            else
              if r14295 = (1 : Int) then
                if 0 ≤ r13970 ∧ r13970 < (r13950.Nodes.length : Int) then
                  (r13950.Nodes[r13970.toNat]?).bind fun x14363 =>
                  (correctorlaw10_within F a5 3).bind fun r14375 =>
                  if 0 ≤ r13970 ∧ r13970 < (r13950.Nodes.length : Int) then
                    (r13950.Nodes[r13970.toNat]?).bind fun x14386 =>
                    some (x13945, r13950.Nodes.set r13970.toNat (⟨x14386.Kind, x14386.From, w64 ((w64 (x14363.To + r14375)) - 1), x14386.Up, x14386.Kids, x14386.Key⟩ : api_Node))
                  else none
                else none
              else
                if r14295 = (2 : Int) then
                  (correctorlaw10_within F a5 (w64 ((r13950.Nodes.length : Int) + 2))).bind fun r14414 =>
                  if 0 ≤ r13970 ∧ r13970 < (r13950.Nodes.length : Int) then
                    (r13950.Nodes[r13970.toNat]?).bind fun x14425 =>
                    some (x13945, r13950.Nodes.set r13970.toNat (⟨x14425.Kind, x14425.From, x14425.To, w64 (r14414 - 1), x14425.Kids, x14425.Key⟩ : api_Node))
                  else none
                else
                  if r14295 = (3 : Int) then
                    if 0 ≤ r13970 ∧ r13970 < (r13950.Nodes.length : Int) then
                      (r13950.Nodes[r13970.toNat]?).bind fun x14454 =>
                      (correctorlaw10_within F a5 (w64 ((r13950.Nodes.length : Int) + 1))).bind fun r14466 =>
                      if x14454.Kids.length + ([r14466] : List Int).length ≤ 17592186044416 then
                        if 0 ≤ r13970 ∧ r13970 < (r13950.Nodes.length : Int) then
                          some (x13945, r13950.Nodes.set r13970.toNat (⟨x14454.Kind, x14454.From, x14454.To, x14454.Up, x14454.Kids ++ ([r14466] : List Int), x14454.Key⟩ : api_Node))
                        else none
                      else none
                    else none
                  else
                    if r14295 = (4 : Int) then
                      if 0 ≤ r13970 ∧ r13970 < (r13950.Nodes.length : Int) then
                        (r13950.Nodes[r13970.toNat]?).bind fun x14514 =>
                        if (0 : Int) < (x14514.Kids.length : Int) then
                          if 0 ≤ r13970 ∧ r13970 < (r13950.Nodes.length : Int) then
                            (r13950.Nodes[r13970.toNat]?).bind fun x14531 =>
                            if 0 ≤ (0 : Int) ∧ (0 : Int) ≤ (w64 ((x14514.Kids.length : Int) - 1)) ∧ (w64 ((x14514.Kids.length : Int) - 1)) ≤ (x14531.Kids.length : Int) then
                              if 0 ≤ r13970 ∧ r13970 < (r13950.Nodes.length : Int) then
                                (r13950.Nodes[r13970.toNat]?).bind fun x14547 =>
                                some (x13945, r13950.Nodes.set r13970.toNat (⟨x14547.Kind, x14547.From, x14547.To, x14547.Up, (x14531.Kids.take (w64 ((x14514.Kids.length : Int) - 1)).toNat).drop (0 : Int).toNat, x14547.Key⟩ : api_Node))
                              else none
                            else none
                          else none
                        else
                          some (x13945, r13950.Nodes)
                      else none
                    else
                      if r14295 = (5 : Int) then
                        if 0 ≤ r13970 ∧ r13970 < (r13950.Nodes.length : Int) then
                          (r13950.Nodes[r13970.toNat]?).bind fun x14564 =>
                          some (x13945, r13950.Nodes.set r13970.toNat (⟨a5, x14564.From, x14564.To, x14564.Up, x14564.Kids, x14564.Key⟩ : api_Node))
                        else none
                      else
                        if r14295 = (6 : Int) then
                          if 0 ≤ r13970 ∧ r13970 < (r13950.Nodes.length : Int) then
                            (r13950.Nodes[r13970.toNat]?).bind fun x14591 =>
                            if x14591.Key = true then
                              if 0 ≤ r13970 ∧ r13970 < (r13950.Nodes.length : Int) then
                                (r13950.Nodes[r13970.toNat]?).bind fun x14605 =>
                                some (x13945, r13950.Nodes.set r13970.toNat (⟨x14605.Kind, x14605.From, x14605.To, x14605.Up, x14605.Kids, false⟩ : api_Node))
                              else none
                            else
                              if 0 ≤ r13970 ∧ r13970 < (r13950.Nodes.length : Int) then
                                (r13950.Nodes[r13970.toNat]?).bind fun x14626 =>
                                some (x13945, r13950.Nodes.set r13970.toNat (⟨x14626.Kind, x14626.From, x14626.To, x14626.Up, x14626.Kids, true⟩ : api_Node))
                              else none
                          else none
                        else
                          some (x13945, r13950.Nodes)) : Option ((List api_Node) × (List api_Node))).bind fun o => match o with
            | (x14653, x14657) => (correctorlaw10_Of F (⟨x14657⟩ : correctorref10_Tree)).bind fun r14672 =>
            (arena_Check F r14672 x13732).bind fun r14688 =>
            (correctorref10_Check F (⟨x14657⟩ : correctorref10_Tree) x13732).bind fun r14699 =>
            if r14688 = true then
              if r14699 = true then
                (correctorlaw10_Of F (⟨x14653⟩ : correctorref10_Tree)).bind fun r14712 =>
                (correctorlaw10_Of F (⟨x14657⟩ : correctorref10_Tree)).bind fun r14729 =>
                (arena_Same F r14712 r14729).bind fun r14745 =>
                (correctorref10_Same F (⟨x14653⟩ : correctorref10_Tree) (⟨x14657⟩ : correctorref10_Tree)).bind fun r14757 =>
                if r14745 = true then
                  if r14757 = true then
                    some true
                  else
                    some false
                else
                  if r14757 = true then
                    some false
                  else
                    some true
              else
                some false
            else
              if r14699 = true then
                some false
              else
                (correctorlaw10_Of F (⟨x14653⟩ : correctorref10_Tree)).bind fun r14778 =>
                (correctorlaw10_Of F (⟨x14657⟩ : correctorref10_Tree)).bind fun r14795 =>
                (arena_Same F r14778 r14795).bind fun r14811 =>
                (correctorref10_Same F (⟨x14653⟩ : correctorref10_Tree) (⟨x14657⟩ : correctorref10_Tree)).bind fun r14823 =>
                if r14811 = true then
                  if r14823 = true then
                    some true
                  else
                    some false
                else
                  if r14823 = true then
                    some false
                  else
                    some true
          | .inr y => some y
    else
      some true
  else
    some false
theorem correctorlaw10_ArenaChecks_ok (F : Nat) {h : AH} {Z : Zn} {a0 : Int} {a1 : List correctorlaw10_Act} {a2 : List api_Node} {a3 : Int} {a4 : Int} {a5 : Int} {v6646 : Value} {v6648 : Value} (hI : Inv Z h) (q6645 : RS (α := correctorlaw10_Act) Z v6646 a1) (q6647 : RS (α := api_Node) Z v6648 a2) {r : Bool} (hm : correctorlaw10_ArenaChecks F a0 a1 a2 a3 a4 a5 = some r) :
    ∃ v h', callI Go.Proofs.Try.prog 6 [V a0, v6646, v6648, V a3, V a4, V a5] h = some (v, h') ∧ St h [] Z (0, 0) Z h' [] ∧ v = .bool r := by
  refine fn_plain (Q := fun v => v = .bool r) Go.Proofs.Try.func6 rfl rfl hI ?_
  intro hs hS
  unfold correctorlaw10_ArenaChecks at hm
  refine sr r6_0 ?_
  refine xe 1 [(0, V a0), (1, v6646), (2, v6648), (3, V a3), (4, V a4), (5, V a5)] ?_
  refine sq ?_
  refine sr r6_1 ?_
  obtain ⟨r13106, hx13107, hm⟩ := obind hm
  obtain ⟨v13108, h13109, hcl13110, hSc13111, rfl⟩ := correctorlaw10_known_ok F hS.inv  hx13107
  have hS13112 := St.call (A := []) (B := []) hS hSc13111
  replace hS13112 : St _ _ _ _ _ _ [] := hS13112
  refine r_step rfl trivial (o_call hcl13110 rfl rfl rfl) ?_
  rcases ifs hm with ⟨hp13113, hm⟩ | ⟨hp13113, hm⟩
  refine r_setb (t := 18) rfl hp13113 ?_
  refine xe 1 [(19, .bool false), (0, V a0), (1, v6646), (2, v6648), (3, V a3), (4, V a4), (5, V a5)] ?_
  refine kF 19 rfl ?_
  refine sq ?_
  refine sr r6_3 ?_
  refine xq 1 [(20, v6648), (0, V a0), (1, v6646), (2, v6648), (3, V a3), (4, V a4), (5, V a5)] ?_
  obtain ⟨r13130, hx13131, hm⟩ := obind hm
  obtain ⟨v13132, h13133, hcl13134, hSc13135, rfl⟩ := correctorlaw10_Few_ok F hS13112.inv q6647 hx13131
  have hS13136 := St.call (A := []) (B := []) hS13112 hSc13135
  replace hS13136 : St _ _ _ _ _ _ [] := hS13136
  refine r_step rfl trivial (o_call hcl13134 rfl rfl rfl) ?_
  rcases ifs hm with ⟨hp13137, hm⟩ | ⟨hp13137, hm⟩
  refine r_setb (t := 21) rfl hp13137 ?_
  refine xe 1 [(22, .bool false), (0, V a0), (1, v6646), (2, v6648), (3, V a3), (4, V a4), (5, V a5)] ?_
  refine kF 22 rfl ?_
  refine sr r6_5 ?_
  refine xq 1 [(23, V a0), (0, V a0), (1, v6646), (2, v6648), (3, V a3), (4, V a4), (5, V a5)] ?_
  obtain ⟨r13138, hx13139, hm⟩ := obind hm
  obtain ⟨v13140, h13141, hcl13142, hSc13143, rfl⟩ := correctorlaw10_within_ok F hS13136.inv  hx13139
  have hS13144 := St.call (A := []) (B := []) hS13136 hSc13143
  replace hS13144 : St _ _ _ _ _ _ [] := hS13144
  refine r_step rfl trivial (o_call hcl13142 rfl rfl rfl) ?_
  refine xe 1 [(0, V r13138), (1, v6646), (2, v6648), (3, V a3), (4, V a4), (5, V a5)] ?_
  refine sr r6_6 ?_
  refine xq 1 [(25, V r13138), (0, V r13138), (1, v6646), (2, v6648), (3, V a3), (4, V a4), (5, V a5)] ?_
  obtain ⟨r13145, hx13146, hm⟩ := obind hm
  have hSr13152 : St _ _ _ _ _ _ ([] ++ []) := hS13144
  obtain ⟨v13147, h13148, Z13153, A13155, hcl13149, hSc13150, v13157, c13158, rfl, rfl, q13156⟩ := correctorref10_New_ok F hSr13152.preL  hx13146
  have hS13151 := hSr13152.call hSc13150
  have hZ13154 := hSc13150.zle
  replace hS13151 : St _ _ _ _ _ _ [.gs v13157 c13158 (csz api_Node)] := hS13151
  refine r_step rfl trivial (o_call hcl13149 rfl rfl rfl) ?_
  refine r_blk rfl trivial (o_alloc (cs := [.slice none 0 0]) (by kernel_rfl)) hS13151 ?_
  intro b13159 h13160 hS13161
  refine r_ex1 rfl trivial (o_stb (vs := [v13157]) (cells' := [v13157]) (L' := [.blk b13159 [v13157], .gs v13157 c13158 (csz api_Node)]) hS13161 (i := 0) rfl rfl rfl rfl (by kernel_rfl) (one_cons (hS13161.gone1 (i := 1) rfl) one_nil) rfl rfl rfl) ?_
  intro h13162 hS13163
  refine xf [(13, Pt b13159 0), (0, V r13138), (1, v6646), (2, v6648), (3, V a3), (4, V a4), (5, V a5)] ?_
  refine sq ?_
  refine sr r6_7 ?_
  refine xe 1 [(14, V 0), (13, Pt b13159 0), (0, V r13138), (1, v6646), (2, v6648), (3, V a3), (4, V a4), (5, V a5)] ?_
  obtain ⟨o13611, ho13610, hm⟩ := obind hm
  refine W_join [0, 2, 3, 4, 5, 13] (fun l h => ∃ Z13731 : Zn, ∃ x13732 : Int, ∃ x13734 : List api_Node, ∃ b13733 : Nat, ∃ v13736 : Value, (x13732, x13734) = o13611 ∧ RS (α := api_Node) Z13731 v13736 x13734 ∧ l = [(0, V x13732), (2, v6648), (3, V a3), (4, V a4), (5, V a5), (13, Pt b13733 0)] ∧ St hs [] Z (0, 0) Z13731 h [.blk b13733 [v13736]]) ?_ ?_
  rintro l h13737 ⟨Z13731, x13732, x13734, b13733, v13736, rfl, q13735, rfl, hS13738⟩
  try dsimp only at hm
  refine sq ?_
  obtain ⟨o13841, ho13840, hm⟩ := obind hm
  refine W_join [0, 3, 4, 5, 13] (fun l h => ∃ Z13943 : Zn, ∃ x13945 : List api_Node, ∃ b13944 : Nat, ∃ v13947 : Value, .inl x13945 = o13841 ∧ RS (α := api_Node) Z13943 v13947 x13945 ∧ l = [(0, V x13732), (3, V a3), (4, V a4), (5, V a5), (13, Pt b13944 0)] ∧ St hs [] Z (0, 0) Z13943 h [.blk b13944 [v13947]]) ?_ ?_
  rintro l h13948 ⟨Z13943, x13945, b13944, v13947, rfl, q13946, rfl, hS13949⟩
  try dsimp only at hm
  refine sr r6_13 ?_
  refine r_step rfl trivial (o_ldb (v := .agg #[v13947]) hS13949 (i := 0) rfl rfl (by kernel_rfl)) ?_
  obtain ⟨r13950, hx13951, hm⟩ := obind hm
  have hSr13957 : St _ _ _ _ _ _ ([] ++ [.blk b13944 [v13947]]) := hS13949
  obtain ⟨v13952, h13953, Z13958, A13960, hcl13954, hSc13955, v13962, c13963, ks13964, rfl, rfl, q13961⟩ := correctorref10_Grow_ok F hSr13957.preL q13946 hx13951
  have hS13956 := hSr13957.call hSc13955
  have hZ13959 := hSc13955.zle
  replace hS13956 : St _ _ _ _ _ _ [.gs v13962 c13963 (csz api_Node), .grp ks13964, .blk b13944 [v13947]] := hS13956
  refine r_step rfl trivial (o_call hcl13954 rfl rfl rfl) ?_
  refine r_blk rfl trivial (o_alloc (cs := [.slice none 0 0]) (by kernel_rfl)) hS13956 ?_
  intro b13965 h13966 hS13967
  refine r_ex1 rfl trivial (o_stb (vs := [v13962]) (cells' := [v13962]) (L' := [.blk b13965 [v13962], .gs v13962 c13963 (csz api_Node), .grp ks13964, .blk b13944 [v13947]]) hS13967 (i := 0) rfl rfl rfl rfl (by kernel_rfl) (one_cons (hS13967.gone1 (i := 1) rfl) one_nil) rfl rfl rfl) ?_
  intro h13968 hS13969
  refine xf [(15, Pt b13965 0), (0, V x13732), (3, V a3), (4, V a4), (5, V a5), (13, Pt b13944 0)] ?_
  refine sr r6_14 ?_
  refine xq 2 [(96, Pt b13965 0), (95, V a4), (15, Pt b13965 0), (0, V x13732), (3, V a3), (5, V a5), (13, Pt b13944 0)] ?_
  refine r_step rfl trivial (o_ldb (v := v13962) hS13969 (i := 0) rfl rfl (by kernel_rfl)) ?_
  refine r_step rfl trivial (o_len rfl (hS13969.dlen (i := 1) rfl (q13961).raw) ⟨_, Go.Proofs.Try.underlying25⟩) ?_
  obtain ⟨r13970, hx13971, hm⟩ := obind hm
  obtain ⟨v13972, h13973, hcl13974, hSc13975, rfl⟩ := correctorlaw10_within_ok F hS13969.inv  hx13971
  have hS13976 := St.call (A := []) (B := [.blk b13965 [v13962], .gs v13962 c13963 (csz api_Node), .grp ks13964, .blk b13944 [v13947]]) hS13969 hSc13975
  replace hS13976 : St _ _ _ _ _ _ [.blk b13965 [v13962], .gs v13962 c13963 (csz api_Node), .grp ks13964, .blk b13944 [v13947]] := hS13976
  refine r_step rfl trivial (o_call hcl13974 rfl rfl rfl) ?_
  refine xe 1 [(16, V r13970), (15, Pt b13965 0), (0, V x13732), (3, V a3), (5, V a5), (13, Pt b13944 0)] ?_
  refine sq ?_
  obtain ⟨o14294, ho14293, hm⟩ := obind hm
  refine W_join [0, 13, 15] (fun l h => ∃ Z14651 : Zn, ∃ x14653 : List api_Node, ∃ x14657 : List api_Node, ∃ b14652 : Nat, ∃ v14655 : Value, ∃ b14656 : Nat, ∃ v14659 : Value, ∃ c14660 : List Value, (x14653, x14657) = o14294 ∧ RS (α := api_Node) Z14651 v14655 x14653 ∧ RCs (α := api_Node) Z14651 c14660 x14657 ∧ l = [(0, V x13732), (13, Pt b14652 0), (15, Pt b14656 0)] ∧ St hs [] Z (0, 0) Z14651 h [.blk b14652 [v14655], .blk b14656 [v14659], .gs v14659 c14660 (csz api_Node)]) ?_ ?_
  rintro l h14661 ⟨Z14651, x14653, x14657, b14652, v14655, b14656, v14659, c14660, rfl, q14654, q14658, rfl, hS14662⟩
  try dsimp only at hm
  refine srF r6_32 hS14662 ?_
  intro bs14663 h14664 hlv14666 hS14665
  have lt14667 : b14656 < bs14663 := hlv14666.1 _ (List.mem_of_getElem? (i := 1) rfl) _ (by simp [Itm.ids])
  refine e_lookB rfl trivial rfl (by show b14656 < _; omega) (same_agg (cs := [v14659]) (.cons (hS14665.gsim1 (i := 2) rfl) .nil)) (o_ldb (v := .agg #[v14659]) hS14665 (i := 1) rfl rfl (by kernel_rfl)) trivial ?_
  obtain ⟨Z14668, hZ14669, q14670, hS14671⟩ := (hS14665.front 2 rfl).freeze q14658
  replace hS14671 : St _ _ _ _ _ _ [.blk b14652 [v14655], .blk b14656 [v14659]] := hS14671
  obtain ⟨r14672, hx14673, hm⟩ := obind hm
  have hSl14679 := hS14671.lown
  have hSr14680 : St _ _ _ _ _ _ ([] ++ [.blk b14652 [v14655], .blk b14656 [v14659]]) := hSl14679
  obtain ⟨v14674, h14675, Z14681, A14683, hcl14676, hSc14677, v14685, rfl, rfl, q14684⟩ := correctorlaw10_Of_ok F hSr14680.preL q14670 hx14673
  have hS14678 := hSr14680.call hSc14677
  have hZ14682 := hSc14677.zle
  replace hS14678 : St _ _ _ _ _ _ [.blk b14652 [v14655], .blk b14656 [v14659]] := hS14678
  refine e_still rfl trivial hS14671 (o_call hcl14676 rfl rfl rfl) hS14678 (St.lowk hSc14677) ?_
  intro h14686 hS14687
  refine yq 1 [(220, V x13732), (219, .agg #[v14685]), (0, V x13732), (13, Pt b14652 0), (15, Pt b14656 0)] ?_
  obtain ⟨r14688, hx14689, hm⟩ := obind hm
  have hSl14695 := hS14687.lown
  obtain ⟨v14690, h14691, hcl14692, hSc14693, rfl⟩ := arena_Check_ok F hSl14695.inv q14684 hx14689
  have hS14694 := St.call (A := []) (B := [.blk b14652 [v14655], .blk b14656 [v14659]]) hSl14695 hSc14693
  replace hS14694 : St _ _ _ _ _ _ [.blk b14652 [v14655], .blk b14656 [v14659]] := hS14694
  refine e_still rfl trivial hS14687 (o_call hcl14692 rfl rfl rfl) hS14694 (St.lowk hSc14693) ?_
  intro h14696 hS14697
  have lt14698 : b14656 < bs14663 := hlv14666.1 _ (List.mem_of_getElem? (i := 1) rfl) _ (by simp [Itm.ids])
  refine e_lookB rfl trivial rfl (by show b14656 < _; omega) (same_agg (cs := [v14659]) (.cons (RS.sim1 (q14670.mono hZ14682)) .nil)) (o_ldb (v := .agg #[v14659]) hS14697 (i := 1) rfl rfl (by kernel_rfl)) trivial ?_
  refine yq 1 [(223, V x13732), (222, .agg #[v14659]), (221, .bool r14688), (13, Pt b14652 0), (15, Pt b14656 0)] ?_
  obtain ⟨r14699, hx14700, hm⟩ := obind hm
  have hSl14706 := hS14697.lown
  obtain ⟨v14701, h14702, hcl14703, hSc14704, rfl⟩ := correctorref10_Check_ok F hSl14706.inv (q14670.mono hZ14682) hx14700
  have hS14705 := St.call (A := []) (B := [.blk b14652 [v14655], .blk b14656 [v14659]]) hSl14706 hSc14704
  replace hS14705 : St _ _ _ _ _ _ [.blk b14652 [v14655], .blk b14656 [v14659]] := hS14705
  refine e_still rfl trivial hS14697 (o_call hcl14703 rfl rfl rfl) hS14705 (St.lowk hSc14704) ?_
  intro h14707 hS14708
  rcases ifs hm with ⟨hp14709, hm⟩ | ⟨hp14709, hm⟩
  refine e_setb (t := 221) rfl hp14709 ?_
  rcases ifs hm with ⟨hp14710, hm⟩ | ⟨hp14710, hm⟩
  refine e_setb (t := 224) rfl hp14710 ?_
  refine e_val rfl trivial (o_cmp (w := true) rfl rfl (by kernel_rfl)) ?_
  refine yq 1 [(226, .bool true), (13, Pt b14652 0), (15, Pt b14656 0)] ?_
  have lt14711 : b14652 < bs14663 := hlv14666.1 _ (List.mem_of_getElem? (i := 0) rfl) _ (by simp [Itm.ids])
  refine e_lookB rfl rfl rfl (by show b14652 < _; omega) (same_agg (cs := [v14655]) (.cons (RS.sim1 (q14654.mono (hZ14669.trans hZ14682))) .nil)) (o_ldb (v := .agg #[v14655]) hS14708 (i := 0) rfl rfl (by kernel_rfl)) trivial ?_
  obtain ⟨r14712, hx14713, hm⟩ := obind hm
  have hSl14719 := hS14708.lown
  have hSr14720 : St _ _ _ _ _ _ ([] ++ [.blk b14652 [v14655], .blk b14656 [v14659]]) := hSl14719
  obtain ⟨v14714, h14715, Z14721, A14723, hcl14716, hSc14717, v14725, rfl, rfl, q14724⟩ := correctorlaw10_Of_ok F hSr14720.preL (q14654.mono (hZ14669.trans hZ14682)) hx14713
  have hS14718 := hSr14720.call hSc14717
  have hZ14722 := hSc14717.zle
  replace hS14718 : St _ _ _ _ _ _ [.blk b14652 [v14655], .blk b14656 [v14659]] := hS14718
  refine e_still rfl rfl hS14708 (o_call hcl14716 rfl rfl rfl) hS14718 (St.lowk hSc14717) ?_
  intro h14726 hS14727
  have lt14728 : b14656 < bs14663 := hlv14666.1 _ (List.mem_of_getElem? (i := 1) rfl) _ (by simp [Itm.ids])
  refine e_lookB rfl rfl rfl (by show b14656 < _; omega) (same_agg (cs := [v14659]) (.cons (RS.sim1 (q14670.mono (hZ14682.trans hZ14722))) .nil)) (o_ldb (v := .agg #[v14659]) hS14727 (i := 1) rfl rfl (by kernel_rfl)) trivial ?_
  obtain ⟨r14729, hx14730, hm⟩ := obind hm
  have hSl14736 := hS14727.lown
  have hSr14737 : St _ _ _ _ _ _ ([] ++ [.blk b14652 [v14655], .blk b14656 [v14659]]) := hSl14736
  obtain ⟨v14731, h14732, Z14738, A14740, hcl14733, hSc14734, v14742, rfl, rfl, q14741⟩ := correctorlaw10_Of_ok F hSr14737.preL (q14670.mono (hZ14682.trans hZ14722)) hx14730
  have hS14735 := hSr14737.call hSc14734
  have hZ14739 := hSc14734.zle
  replace hS14735 : St _ _ _ _ _ _ [.blk b14652 [v14655], .blk b14656 [v14659]] := hS14735
  refine e_still rfl rfl hS14727 (o_call hcl14733 rfl rfl rfl) hS14735 (St.lowk hSc14734) ?_
  intro h14743 hS14744
  obtain ⟨r14745, hx14746, hm⟩ := obind hm
  have hSl14752 := hS14744.lown
  obtain ⟨v14747, h14748, hcl14749, hSc14750, rfl⟩ := arena_Same_ok F hSl14752.inv (q14724.mono hZ14739) q14741 hx14746
  have hS14751 := St.call (A := []) (B := [.blk b14652 [v14655], .blk b14656 [v14659]]) hSl14752 hSc14750
  replace hS14751 : St _ _ _ _ _ _ [.blk b14652 [v14655], .blk b14656 [v14659]] := hS14751
  refine e_still rfl rfl hS14744 (o_call hcl14749 rfl rfl rfl) hS14751 (St.lowk hSc14750) ?_
  intro h14753 hS14754
  have lt14755 : b14652 < bs14663 := hlv14666.1 _ (List.mem_of_getElem? (i := 0) rfl) _ (by simp [Itm.ids])
  refine e_lookB rfl rfl rfl (by show b14652 < _; omega) (same_agg (cs := [v14655]) (.cons (RS.sim1 (q14654.mono (hZ14669.trans (hZ14682.trans (hZ14722.trans hZ14739))))) .nil)) (o_ldb (v := .agg #[v14655]) hS14754 (i := 0) rfl rfl (by kernel_rfl)) trivial ?_
  have lt14756 : b14656 < bs14663 := hlv14666.1 _ (List.mem_of_getElem? (i := 1) rfl) _ (by simp [Itm.ids])
  refine e_lookB rfl rfl rfl (by show b14656 < _; omega) (same_agg (cs := [v14659]) (.cons (RS.sim1 (q14670.mono (hZ14682.trans (hZ14722.trans hZ14739)))) .nil)) (o_ldb (v := .agg #[v14659]) hS14754 (i := 1) rfl rfl (by kernel_rfl)) trivial ?_
  obtain ⟨r14757, hx14758, hm⟩ := obind hm
  have hSl14764 := hS14754.lown
  obtain ⟨v14759, h14760, hcl14761, hSc14762, rfl⟩ := correctorref10_Same_ok F hSl14764.inv (q14654.mono (hZ14669.trans (hZ14682.trans (hZ14722.trans hZ14739)))) (q14670.mono (hZ14682.trans (hZ14722.trans hZ14739))) hx14758
  have hS14763 := St.call (A := []) (B := [.blk b14652 [v14655], .blk b14656 [v14659]]) hSl14764 hSc14762
  replace hS14763 : St _ _ _ _ _ _ [.blk b14652 [v14655], .blk b14656 [v14659]] := hS14763
  refine e_still rfl rfl hS14754 (o_call hcl14761 rfl rfl rfl) hS14763 (St.lowk hSc14762) ?_
  intro h14765 hS14766
  rcases ifs hm with ⟨hp14767, hm⟩ | ⟨hp14767, hm⟩
  refine e_setb (t := 231) rfl hp14767 ?_
  rcases ifs hm with ⟨hp14768, hm⟩ | ⟨hp14768, hm⟩
  refine e_setb (t := 234) rfl hp14768 ?_
  refine e_val rfl rfl (o_cmp (w := true) rfl rfl (by kernel_rfl)) ?_
  refine ye 2 [(12, .bool true)] ?_
  have hS14769 := hS14766.unres
  refine rt ?_
  refine ⟨rfl, ?_⟩
  obtain rfl := Option.some.inj hm
  refine ⟨_, _, _, ResL.tmp rfl (ResL.nil), hS14769, ?_⟩
  exact rfl
  refine e_setb (t := 234) rfl (Bool.eq_false_iff.2 hp14768) ?_
  refine e_val rfl rfl (o_cmp (w := false) rfl rfl (by kernel_rfl)) ?_
  refine ye 2 [(12, .bool false)] ?_
  have hS14770 := hS14766.unres
  refine rt ?_
  refine ⟨rfl, ?_⟩
  obtain rfl := Option.some.inj hm
  refine ⟨_, _, _, ResL.tmp rfl (ResL.nil), hS14770, ?_⟩
  exact rfl
  refine e_setb (t := 231) rfl (Bool.eq_false_iff.2 hp14767) ?_
  rcases ifs hm with ⟨hp14771, hm⟩ | ⟨hp14771, hm⟩
  refine e_setb (t := 234) rfl hp14771 ?_
  refine e_val rfl rfl (o_cmp (w := false) rfl rfl (by kernel_rfl)) ?_
  refine ye 2 [(12, .bool false)] ?_
  have hS14772 := hS14766.unres
  refine rt ?_
  refine ⟨rfl, ?_⟩
  obtain rfl := Option.some.inj hm
  refine ⟨_, _, _, ResL.tmp rfl (ResL.nil), hS14772, ?_⟩
  exact rfl
  refine e_setb (t := 234) rfl (Bool.eq_false_iff.2 hp14771) ?_
  refine e_val rfl rfl (o_cmp (w := true) rfl rfl (by kernel_rfl)) ?_
  refine ye 2 [(12, .bool true)] ?_
  have hS14773 := hS14766.unres
  refine rt ?_
  refine ⟨rfl, ?_⟩
  obtain rfl := Option.some.inj hm
  refine ⟨_, _, _, ResL.tmp rfl (ResL.nil), hS14773, ?_⟩
  exact rfl
  refine e_setb (t := 224) rfl (Bool.eq_false_iff.2 hp14710) ?_
  refine e_val rfl trivial (o_cmp (w := false) rfl rfl (by kernel_rfl)) ?_
  refine ye 12 [(12, .bool false)] ?_
  have hS14774 := hS14708.unres
  refine rt ?_
  refine ⟨rfl, ?_⟩
  obtain rfl := Option.some.inj hm
  refine ⟨_, _, _, ResL.tmp rfl (ResL.nil), hS14774, ?_⟩
  exact rfl
  refine e_setb (t := 221) rfl (Bool.eq_false_iff.2 hp14709) ?_
  rcases ifs hm with ⟨hp14775, hm⟩ | ⟨hp14775, hm⟩
  refine e_setb (t := 224) rfl hp14775 ?_
  refine e_val rfl trivial (o_cmp (w := false) rfl rfl (by kernel_rfl)) ?_
  refine ye 12 [(12, .bool false)] ?_
  have hS14776 := hS14708.unres
  refine rt ?_
  refine ⟨rfl, ?_⟩
  obtain rfl := Option.some.inj hm
  refine ⟨_, _, _, ResL.tmp rfl (ResL.nil), hS14776, ?_⟩
  exact rfl
  refine e_setb (t := 224) rfl (Bool.eq_false_iff.2 hp14775) ?_
  refine e_val rfl trivial (o_cmp (w := true) rfl rfl (by kernel_rfl)) ?_
  refine yq 1 [(226, .bool true), (13, Pt b14652 0), (15, Pt b14656 0)] ?_
  have lt14777 : b14652 < bs14663 := hlv14666.1 _ (List.mem_of_getElem? (i := 0) rfl) _ (by simp [Itm.ids])
  refine e_lookB rfl rfl rfl (by show b14652 < _; omega) (same_agg (cs := [v14655]) (.cons (RS.sim1 (q14654.mono (hZ14669.trans hZ14682))) .nil)) (o_ldb (v := .agg #[v14655]) hS14708 (i := 0) rfl rfl (by kernel_rfl)) trivial ?_
  obtain ⟨r14778, hx14779, hm⟩ := obind hm
  have hSl14785 := hS14708.lown
  have hSr14786 : St _ _ _ _ _ _ ([] ++ [.blk b14652 [v14655], .blk b14656 [v14659]]) := hSl14785
  obtain ⟨v14780, h14781, Z14787, A14789, hcl14782, hSc14783, v14791, rfl, rfl, q14790⟩ := correctorlaw10_Of_ok F hSr14786.preL (q14654.mono (hZ14669.trans hZ14682)) hx14779
  have hS14784 := hSr14786.call hSc14783
  have hZ14788 := hSc14783.zle
  replace hS14784 : St _ _ _ _ _ _ [.blk b14652 [v14655], .blk b14656 [v14659]] := hS14784
  refine e_still rfl rfl hS14708 (o_call hcl14782 rfl rfl rfl) hS14784 (St.lowk hSc14783) ?_
  intro h14792 hS14793
  have lt14794 : b14656 < bs14663 := hlv14666.1 _ (List.mem_of_getElem? (i := 1) rfl) _ (by simp [Itm.ids])
  refine e_lookB rfl rfl rfl (by show b14656 < _; omega) (same_agg (cs := [v14659]) (.cons (RS.sim1 (q14670.mono (hZ14682.trans hZ14788))) .nil)) (o_ldb (v := .agg #[v14659]) hS14793 (i := 1) rfl rfl (by kernel_rfl)) trivial ?_
  obtain ⟨r14795, hx14796, hm⟩ := obind hm
  have hSl14802 := hS14793.lown
  have hSr14803 : St _ _ _ _ _ _ ([] ++ [.blk b14652 [v14655], .blk b14656 [v14659]]) := hSl14802
  obtain ⟨v14797, h14798, Z14804, A14806, hcl14799, hSc14800, v14808, rfl, rfl, q14807⟩ := correctorlaw10_Of_ok F hSr14803.preL (q14670.mono (hZ14682.trans hZ14788)) hx14796
  have hS14801 := hSr14803.call hSc14800
  have hZ14805 := hSc14800.zle
  replace hS14801 : St _ _ _ _ _ _ [.blk b14652 [v14655], .blk b14656 [v14659]] := hS14801
  refine e_still rfl rfl hS14793 (o_call hcl14799 rfl rfl rfl) hS14801 (St.lowk hSc14800) ?_
  intro h14809 hS14810
  obtain ⟨r14811, hx14812, hm⟩ := obind hm
  have hSl14818 := hS14810.lown
  obtain ⟨v14813, h14814, hcl14815, hSc14816, rfl⟩ := arena_Same_ok F hSl14818.inv (q14790.mono hZ14805) q14807 hx14812
  have hS14817 := St.call (A := []) (B := [.blk b14652 [v14655], .blk b14656 [v14659]]) hSl14818 hSc14816
  replace hS14817 : St _ _ _ _ _ _ [.blk b14652 [v14655], .blk b14656 [v14659]] := hS14817
  refine e_still rfl rfl hS14810 (o_call hcl14815 rfl rfl rfl) hS14817 (St.lowk hSc14816) ?_
  intro h14819 hS14820
  have lt14821 : b14652 < bs14663 := hlv14666.1 _ (List.mem_of_getElem? (i := 0) rfl) _ (by simp [Itm.ids])
  refine e_lookB rfl rfl rfl (by show b14652 < _; omega) (same_agg (cs := [v14655]) (.cons (RS.sim1 (q14654.mono (hZ14669.trans (hZ14682.trans (hZ14788.trans hZ14805))))) .nil)) (o_ldb (v := .agg #[v14655]) hS14820 (i := 0) rfl rfl (by kernel_rfl)) trivial ?_
  have lt14822 : b14656 < bs14663 := hlv14666.1 _ (List.mem_of_getElem? (i := 1) rfl) _ (by simp [Itm.ids])
  refine e_lookB rfl rfl rfl (by show b14656 < _; omega) (same_agg (cs := [v14659]) (.cons (RS.sim1 (q14670.mono (hZ14682.trans (hZ14788.trans hZ14805)))) .nil)) (o_ldb (v := .agg #[v14659]) hS14820 (i := 1) rfl rfl (by kernel_rfl)) trivial ?_
  obtain ⟨r14823, hx14824, hm⟩ := obind hm
  have hSl14830 := hS14820.lown
  obtain ⟨v14825, h14826, hcl14827, hSc14828, rfl⟩ := correctorref10_Same_ok F hSl14830.inv (q14654.mono (hZ14669.trans (hZ14682.trans (hZ14788.trans hZ14805)))) (q14670.mono (hZ14682.trans (hZ14788.trans hZ14805))) hx14824
  have hS14829 := St.call (A := []) (B := [.blk b14652 [v14655], .blk b14656 [v14659]]) hSl14830 hSc14828
  replace hS14829 : St _ _ _ _ _ _ [.blk b14652 [v14655], .blk b14656 [v14659]] := hS14829
  refine e_still rfl rfl hS14820 (o_call hcl14827 rfl rfl rfl) hS14829 (St.lowk hSc14828) ?_
  intro h14831 hS14832
  rcases ifs hm with ⟨hp14833, hm⟩ | ⟨hp14833, hm⟩
  refine e_setb (t := 231) rfl hp14833 ?_
  rcases ifs hm with ⟨hp14834, hm⟩ | ⟨hp14834, hm⟩
  refine e_setb (t := 234) rfl hp14834 ?_
  refine e_val rfl rfl (o_cmp (w := true) rfl rfl (by kernel_rfl)) ?_
  refine ye 2 [(12, .bool true)] ?_
  have hS14835 := hS14832.unres
  refine rt ?_
  refine ⟨rfl, ?_⟩
  obtain rfl := Option.some.inj hm
  refine ⟨_, _, _, ResL.tmp rfl (ResL.nil), hS14835, ?_⟩
  exact rfl
  refine e_setb (t := 234) rfl (Bool.eq_false_iff.2 hp14834) ?_
  refine e_val rfl rfl (o_cmp (w := false) rfl rfl (by kernel_rfl)) ?_
  refine ye 2 [(12, .bool false)] ?_
  have hS14836 := hS14832.unres
  refine rt ?_
  refine ⟨rfl, ?_⟩
  obtain rfl := Option.some.inj hm
  refine ⟨_, _, _, ResL.tmp rfl (ResL.nil), hS14836, ?_⟩
  exact rfl
  refine e_setb (t := 231) rfl (Bool.eq_false_iff.2 hp14833) ?_
  rcases ifs hm with ⟨hp14837, hm⟩ | ⟨hp14837, hm⟩
  refine e_setb (t := 234) rfl hp14837 ?_
  refine e_val rfl rfl (o_cmp (w := false) rfl rfl (by kernel_rfl)) ?_
  refine ye 2 [(12, .bool false)] ?_
  have hS14838 := hS14832.unres
  refine rt ?_
  refine ⟨rfl, ?_⟩
  obtain rfl := Option.some.inj hm
  refine ⟨_, _, _, ResL.tmp rfl (ResL.nil), hS14838, ?_⟩
  exact rfl
  refine e_setb (t := 234) rfl (Bool.eq_false_iff.2 hp14837) ?_
  refine e_val rfl rfl (o_cmp (w := true) rfl rfl (by kernel_rfl)) ?_
  refine ye 2 [(12, .bool true)] ?_
  have hS14839 := hS14832.unres
  refine rt ?_
  refine ⟨rfl, ?_⟩
  obtain rfl := Option.some.inj hm
  refine ⟨_, _, _, ResL.tmp rfl (ResL.nil), hS14839, ?_⟩
  exact rfl
  refine sr r6_15 ?_
  refine xq 1 [(100, V a3), (16, V r13970), (15, Pt b13965 0), (0, V x13732), (5, V a5), (13, Pt b13944 0)] ?_
  obtain ⟨r14295, hx14296, ho14293⟩ := obind ho14293
  obtain ⟨v14297, h14298, hcl14299, hSc14300, rfl⟩ := correctorlaw10_within_ok F hS13976.inv  hx14296
  have hS14301 := St.call (A := []) (B := [.blk b13965 [v13962], .gs v13962 c13963 (csz api_Node), .grp ks13964, .blk b13944 [v13947]]) hS13976 hSc14300
  replace hS14301 : St _ _ _ _ _ _ [.blk b13965 [v13962], .gs v13962 c13963 (csz api_Node), .grp ks13964, .blk b13944 [v13947]] := hS14301
  refine r_step rfl trivial (o_call hcl14299 rfl rfl rfl) ?_
  refine xf [(101, V r14295), (16, V r13970), (15, Pt b13965 0), (0, V x13732), (5, V a5), (13, Pt b13944 0)] ?_
  refine bk 2 ?_
  refine sr r6_16 ?_
  rcases ifs ho14293 with ⟨hp14303, ho14293⟩ | ⟨hp14303, ho14293⟩
  refine r_step rfl trivial (o_cmp rfl rfl (c_eql_T hp14303)) ?_
  refine xe 1 [(102, .bool true), (101, V r14295), (16, V r13970), (15, Pt b13965 0), (0, V x13732), (5, V a5), (13, Pt b13944 0)] ?_
  refine cT 102 rfl ?_
  refine rgF r6_17 hS14301 ?_
  intro bs14304 h14305 hlv14307 hS14306
  refine yq 1 [(104, Pt b13965 0), (16, V r13970), (15, Pt b13965 0), (0, V x13732), (5, V a5), (13, Pt b13944 0)] ?_
  have lt14308 : b13965 < bs14304 := hlv14307.1 _ (List.mem_of_getElem? (i := 0) rfl) _ (by simp [Itm.ids])
  refine e_lookB rfl trivial rfl (by show b13965 < _; omega) (same1 (v := v13962) (hS14306.gsim1 (i := 1) rfl)) (o_ldb (v := v13962) hS14306 (i := 0) rfl rfl (by kernel_rfl)) trivial ?_
  refine yq 2 [(107, Pt b13965 0), (106, V r13970), (105, v13962), (16, V r13970), (15, Pt b13965 0), (0, V x13732), (5, V a5), (13, Pt b13944 0)] ?_
  have lt14309 : b13965 < bs14304 := hlv14307.1 _ (List.mem_of_getElem? (i := 0) rfl) _ (by simp [Itm.ids])
  refine e_lookB rfl trivial rfl (by show b13965 < _; omega) (same1 (v := v13962) (hS14306.gsim1 (i := 1) rfl)) (o_ldb (v := v13962) hS14306 (i := 0) rfl rfl (by kernel_rfl)) trivial ?_
  refine yq 1 [(109, V r13970), (108, v13962), (106, V r13970), (105, v13962), (15, Pt b13965 0), (0, V x13732), (5, V a5), (13, Pt b13944 0)] ?_
  obtain ⟨hc14310, ho14293⟩ := chk ho14293
  refine e_val rfl trivial (o_index rfl rfl (by kernel_rfl : slTy _ _ = some (csz api_Node)) (hS14306.dbased (i := 1) rfl (q13961).raw (by omega)) hc14310.1 hc14310.2) ?_
  refine yq 1 [(111, .pointer (some (elemA v13962 r13970 (csz api_Node) 1))), (106, V r13970), (105, v13962), (15, Pt b13965 0), (0, V x13732), (5, V a5), (13, Pt b13944 0)] ?_
  obtain ⟨x14311, hx14312, ho14293⟩ := obind ho14293
  obtain ⟨w14317, cs14313, hd14318, ho14319, he14315, ht14316⟩ := hS14306.del (j := 1) rfl (q13961).raw (i := r13970) hx14312
  obtain rfl := drc_api_Node hd14318
  have ps14320 := pos_of hx14312
  have hB14321 := hS14306.dbased (i := 1) rfl (q13961).raw ps14320
  have lt14322 : (baseOf v13962).block < bs14304 := row_ltM (hlv14307.1 _ (List.mem_of_getElem? (i := 1) rfl)) hB14321
  refine e_lookB rfl trivial rfl (by show (baseOf v13962).block < _; omega) (same1 (v := V x14311.From) trivial) (o_lde (w := V x14311.From) he14315 rfl (by kernel_rfl)) trivial ?_
  refine yq 1 [(113, V a5), (112, V x14311.From), (106, V r13970), (105, v13962), (15, Pt b13965 0), (0, V x13732), (13, Pt b13944 0)] ?_
  obtain ⟨r14323, hx14324, ho14293⟩ := obind ho14293
  have hSl14330 := hS14306.lown
  obtain ⟨v14325, h14326, hcl14327, hSc14328, rfl⟩ := correctorlaw10_within_ok F hSl14330.inv  hx14324
  have hS14329 := St.call (A := []) (B := [.blk b13965 [v13962], .gs v13962 c13963 (csz api_Node), .grp ks13964, .blk b13944 [v13947]]) hSl14330 hSc14328
  replace hS14329 : St _ _ _ _ _ _ [.blk b13965 [v13962], .gs v13962 c13963 (csz api_Node), .grp ks13964, .blk b13944 [v13947]] := hS14329
  refine e_still rfl trivial hS14306 (o_call hcl14327 rfl rfl rfl) hS14329 (St.lowk hSc14328) ?_
  intro h14331 hS14332
  refine yq 2 [(116, V (w64 ((w64 (x14311.From + r14323)) - 1))), (106, V r13970), (105, v13962), (15, Pt b13965 0), (0, V x13732), (13, Pt b13944 0)] ?_
  obtain ⟨hc14333, ho14293⟩ := chk ho14293
  refine e_val rfl trivial (o_index rfl rfl (by kernel_rfl : slTy _ _ = some (csz api_Node)) (hS14332.dbased (i := 1) rfl (q13961).raw (by omega)) hc14333.1 hc14333.2) ?_
  refine yq 1 [(118, .pointer (some (elemA v13962 r13970 (csz api_Node) 1))), (116, V (w64 ((w64 (x14311.From + r14323)) - 1))), (15, Pt b13965 0), (0, V x13732), (13, Pt b13944 0)] ?_
  obtain ⟨x14334, hx14335, ho14293⟩ := obind ho14293
  obtain ⟨w14340, cs14336, hd14341, ho14342, he14338, ht14339⟩ := hS14332.del (j := 1) rfl (q13961).raw (i := r13970) hx14335
  obtain rfl := drc_api_Node hd14341
  have hF14347 : St _ _ _ _ _ _ ([.gs v13962 c13963 (csz api_Node)] ++ [.blk b13965 [v13962], .grp ks13964, .blk b13944 [v13947]]) := (hS14332.front 1 rfl)
  refine e_mk2 rfl trivial hF14347 (o_sted (z' := (⟨x14334.Kind, w64 ((w64 (x14311.From + r14323)) - 1), x14334.To, x14334.Up, x14334.Kids, x14334.Key⟩ : api_Node)) (vs := [V (w64 ((w64 (x14311.From + r14323)) - 1))]) (cs' := [V x14334.Kind, V (w64 ((w64 (x14311.From + r14323)) - 1)), V x14334.To, V x14334.Up, w14340, .bool x14334.Key]) hF14347.sub (m := 0) rfl q13961 hx14335 ht14339 rfl rfl rfl (by kernel_rfl) rfl rfl rfl (show DCell.drc _ _ _ from rfl) (show DCell.drc _ _ _ from rfl) rfl) (Zle.refl _) (.drop (by decide) (.keep (hF14347.neB 0 rfl blk_mem) (.keep (hF14347.neB 0 rfl blk_mem) .nil))) ?_
  rintro h14343 c14344 ⟨q14346, hS14345⟩
  replace hS14345 : St _ _ _ _ _ _ [.gs v13962 c14344 (csz api_Node), .blk b13965 [v13962], .grp ks13964, .blk b13944 [v13947]] := hS14345
  refine yf [(15, Pt b13965 0), (0, V x13732), (13, Pt b13944 0)] ?_
  have hS14348 := hS14345.unres
  have hF14353 : St _ _ _ _ _ _ [.gs v13962 c14344 (csz api_Node), .grp ks13964, .blk b13965 [v13962], .blk b13944 [v13947]] := ((hS14348.front 2 rfl).front 1 rfl)
  obtain ⟨Z14349, hZ14350, q14351, hS14352⟩ := hF14353.shallow q14346
  replace hS14352 : St _ _ _ _ _ _ [.gs v13962 c14344 (csz api_Node), .blk b13965 [v13962], .blk b13944 [v13947]] := hS14352
  obtain rfl := Option.some.inj ho14293
  exact ⟨_, x13945, r13950.Nodes.set r13970.toNat (⟨x14334.Kind, w64 ((w64 (x14311.From + r14323)) - 1), x14334.To, x14334.Up, x14334.Kids, x14334.Key⟩ : api_Node), b13944, v13947, b13965, v13962, c14344, rfl, (q13946.mono (hZ13959.trans hZ14350)), q14351, rfl, (((hS14352.front 0 rfl).front 1 rfl).front 2 rfl)⟩
  refine r_step rfl trivial (o_cmp rfl rfl (c_eql_F hp14303)) ?_
  refine xe 1 [(102, .bool false), (101, V r14295), (16, V r13970), (15, Pt b13965 0), (0, V x13732), (5, V a5), (13, Pt b13944 0)] ?_
  refine cF 102 rfl ?_
  refine sr r6_18 ?_
  rcases ifs ho14293 with ⟨hp14355, ho14293⟩ | ⟨hp14355, ho14293⟩
  refine r_step rfl trivial (o_cmp rfl rfl (c_eql_T hp14355)) ?_
  refine xe 1 [(119, .bool true), (101, V r14295), (16, V r13970), (15, Pt b13965 0), (0, V x13732), (5, V a5), (13, Pt b13944 0)] ?_
  refine cT 119 rfl ?_
  refine rgF r6_19 hS14301 ?_
  intro bs14356 h14357 hlv14359 hS14358
  refine yq 1 [(121, Pt b13965 0), (16, V r13970), (15, Pt b13965 0), (0, V x13732), (5, V a5), (13, Pt b13944 0)] ?_
  have lt14360 : b13965 < bs14356 := hlv14359.1 _ (List.mem_of_getElem? (i := 0) rfl) _ (by simp [Itm.ids])
  refine e_lookB rfl trivial rfl (by show b13965 < _; omega) (same1 (v := v13962) (hS14358.gsim1 (i := 1) rfl)) (o_ldb (v := v13962) hS14358 (i := 0) rfl rfl (by kernel_rfl)) trivial ?_
  refine yq 2 [(124, Pt b13965 0), (123, V r13970), (122, v13962), (16, V r13970), (15, Pt b13965 0), (0, V x13732), (5, V a5), (13, Pt b13944 0)] ?_
  have lt14361 : b13965 < bs14356 := hlv14359.1 _ (List.mem_of_getElem? (i := 0) rfl) _ (by simp [Itm.ids])
  refine e_lookB rfl trivial rfl (by show b13965 < _; omega) (same1 (v := v13962) (hS14358.gsim1 (i := 1) rfl)) (o_ldb (v := v13962) hS14358 (i := 0) rfl rfl (by kernel_rfl)) trivial ?_
  refine yq 1 [(126, V r13970), (125, v13962), (123, V r13970), (122, v13962), (15, Pt b13965 0), (0, V x13732), (5, V a5), (13, Pt b13944 0)] ?_
  obtain ⟨hc14362, ho14293⟩ := chk ho14293
  refine e_val rfl trivial (o_index rfl rfl (by kernel_rfl : slTy _ _ = some (csz api_Node)) (hS14358.dbased (i := 1) rfl (q13961).raw (by omega)) hc14362.1 hc14362.2) ?_
  refine yq 1 [(128, .pointer (some (elemA v13962 r13970 (csz api_Node) 2))), (123, V r13970), (122, v13962), (15, Pt b13965 0), (0, V x13732), (5, V a5), (13, Pt b13944 0)] ?_
  obtain ⟨x14363, hx14364, ho14293⟩ := obind ho14293
  obtain ⟨w14369, cs14365, hd14370, ho14371, he14367, ht14368⟩ := hS14358.del (j := 1) rfl (q13961).raw (i := r13970) hx14364
  obtain rfl := drc_api_Node hd14370
  have ps14372 := pos_of hx14364
  have hB14373 := hS14358.dbased (i := 1) rfl (q13961).raw ps14372
  have lt14374 : (baseOf v13962).block < bs14356 := row_ltM (hlv14359.1 _ (List.mem_of_getElem? (i := 1) rfl)) hB14373
  refine e_lookB rfl trivial rfl (by show (baseOf v13962).block < _; omega) (same1 (v := V x14363.To) trivial) (o_lde (w := V x14363.To) he14367 rfl (by kernel_rfl)) trivial ?_
  refine yq 1 [(130, V a5), (129, V x14363.To), (123, V r13970), (122, v13962), (15, Pt b13965 0), (0, V x13732), (13, Pt b13944 0)] ?_
  obtain ⟨r14375, hx14376, ho14293⟩ := obind ho14293
  have hSl14382 := hS14358.lown
  obtain ⟨v14377, h14378, hcl14379, hSc14380, rfl⟩ := correctorlaw10_within_ok F hSl14382.inv  hx14376
  have hS14381 := St.call (A := []) (B := [.blk b13965 [v13962], .gs v13962 c13963 (csz api_Node), .grp ks13964, .blk b13944 [v13947]]) hSl14382 hSc14380
  replace hS14381 : St _ _ _ _ _ _ [.blk b13965 [v13962], .gs v13962 c13963 (csz api_Node), .grp ks13964, .blk b13944 [v13947]] := hS14381
  refine e_still rfl trivial hS14358 (o_call hcl14379 rfl rfl rfl) hS14381 (St.lowk hSc14380) ?_
  intro h14383 hS14384
  refine yq 2 [(133, V (w64 ((w64 (x14363.To + r14375)) - 1))), (123, V r13970), (122, v13962), (15, Pt b13965 0), (0, V x13732), (13, Pt b13944 0)] ?_
  obtain ⟨hc14385, ho14293⟩ := chk ho14293
  refine e_val rfl trivial (o_index rfl rfl (by kernel_rfl : slTy _ _ = some (csz api_Node)) (hS14384.dbased (i := 1) rfl (q13961).raw (by omega)) hc14385.1 hc14385.2) ?_
  refine yq 1 [(135, .pointer (some (elemA v13962 r13970 (csz api_Node) 2))), (133, V (w64 ((w64 (x14363.To + r14375)) - 1))), (15, Pt b13965 0), (0, V x13732), (13, Pt b13944 0)] ?_
  obtain ⟨x14386, hx14387, ho14293⟩ := obind ho14293
  obtain ⟨w14392, cs14388, hd14393, ho14394, he14390, ht14391⟩ := hS14384.del (j := 1) rfl (q13961).raw (i := r13970) hx14387
  obtain rfl := drc_api_Node hd14393
  have hF14399 : St _ _ _ _ _ _ ([.gs v13962 c13963 (csz api_Node)] ++ [.blk b13965 [v13962], .grp ks13964, .blk b13944 [v13947]]) := (hS14384.front 1 rfl)
  refine e_mk2 rfl trivial hF14399 (o_sted (z' := (⟨x14386.Kind, x14386.From, w64 ((w64 (x14363.To + r14375)) - 1), x14386.Up, x14386.Kids, x14386.Key⟩ : api_Node)) (vs := [V (w64 ((w64 (x14363.To + r14375)) - 1))]) (cs' := [V x14386.Kind, V x14386.From, V (w64 ((w64 (x14363.To + r14375)) - 1)), V x14386.Up, w14392, .bool x14386.Key]) hF14399.sub (m := 0) rfl q13961 hx14387 ht14391 rfl rfl rfl (by kernel_rfl) rfl rfl rfl (show DCell.drc _ _ _ from rfl) (show DCell.drc _ _ _ from rfl) rfl) (Zle.refl _) (.drop (by decide) (.keep (hF14399.neB 0 rfl blk_mem) (.keep (hF14399.neB 0 rfl blk_mem) .nil))) ?_
  rintro h14395 c14396 ⟨q14398, hS14397⟩
  replace hS14397 : St _ _ _ _ _ _ [.gs v13962 c14396 (csz api_Node), .blk b13965 [v13962], .grp ks13964, .blk b13944 [v13947]] := hS14397
  refine yf [(15, Pt b13965 0), (0, V x13732), (13, Pt b13944 0)] ?_
  have hS14400 := hS14397.unres
  have hF14405 : St _ _ _ _ _ _ [.gs v13962 c14396 (csz api_Node), .grp ks13964, .blk b13965 [v13962], .blk b13944 [v13947]] := ((hS14400.front 2 rfl).front 1 rfl)
  obtain ⟨Z14401, hZ14402, q14403, hS14404⟩ := hF14405.shallow q14398
  replace hS14404 : St _ _ _ _ _ _ [.gs v13962 c14396 (csz api_Node), .blk b13965 [v13962], .blk b13944 [v13947]] := hS14404
  obtain rfl := Option.some.inj ho14293
  exact ⟨_, x13945, r13950.Nodes.set r13970.toNat (⟨x14386.Kind, x14386.From, w64 ((w64 (x14363.To + r14375)) - 1), x14386.Up, x14386.Kids, x14386.Key⟩ : api_Node), b13944, v13947, b13965, v13962, c14396, rfl, (q13946.mono (hZ13959.trans hZ14402)), q14403, rfl, (((hS14404.front 0 rfl).front 1 rfl).front 2 rfl)⟩
  refine r_step rfl trivial (o_cmp rfl rfl (c_eql_F hp14355)) ?_
  refine xe 1 [(119, .bool false), (101, V r14295), (16, V r13970), (15, Pt b13965 0), (0, V x13732), (5, V a5), (13, Pt b13944 0)] ?_
  refine cF 119 rfl ?_
  refine sr r6_20 ?_
  rcases ifs ho14293 with ⟨hp14407, ho14293⟩ | ⟨hp14407, ho14293⟩
  refine r_step rfl trivial (o_cmp rfl rfl (c_eql_T hp14407)) ?_
  refine xe 1 [(136, .bool true), (101, V r14295), (16, V r13970), (15, Pt b13965 0), (0, V x13732), (5, V a5), (13, Pt b13944 0)] ?_
  refine cT 136 rfl ?_
  refine rgF r6_21 hS14301 ?_
  intro bs14408 h14409 hlv14411 hS14410
  refine yq 1 [(138, Pt b13965 0), (16, V r13970), (15, Pt b13965 0), (0, V x13732), (5, V a5), (13, Pt b13944 0)] ?_
  have lt14412 : b13965 < bs14408 := hlv14411.1 _ (List.mem_of_getElem? (i := 0) rfl) _ (by simp [Itm.ids])
  refine e_lookB rfl trivial rfl (by show b13965 < _; omega) (same1 (v := v13962) (hS14410.gsim1 (i := 1) rfl)) (o_ldb (v := v13962) hS14410 (i := 0) rfl rfl (by kernel_rfl)) trivial ?_
  refine yq 3 [(142, Pt b13965 0), (141, V a5), (140, V r13970), (139, v13962), (15, Pt b13965 0), (0, V x13732), (13, Pt b13944 0)] ?_
  have lt14413 : b13965 < bs14408 := hlv14411.1 _ (List.mem_of_getElem? (i := 0) rfl) _ (by simp [Itm.ids])
  refine e_lookB rfl trivial rfl (by show b13965 < _; omega) (same1 (v := v13962) (hS14410.gsim1 (i := 1) rfl)) (o_ldb (v := v13962) hS14410 (i := 0) rfl rfl (by kernel_rfl)) trivial ?_
  refine e_val rfl trivial (o_len rfl (hS14410.dlen (i := 1) rfl (q13961).raw) ⟨_, Go.Proofs.Try.underlying25⟩) ?_
  refine yq 1 [(145, V (w64 ((r13950.Nodes.length : Int) + 2))), (141, V a5), (140, V r13970), (139, v13962), (15, Pt b13965 0), (0, V x13732), (13, Pt b13944 0)] ?_
  obtain ⟨r14414, hx14415, ho14293⟩ := obind ho14293
  have hSl14421 := hS14410.lown
  obtain ⟨v14416, h14417, hcl14418, hSc14419, rfl⟩ := correctorlaw10_within_ok F hSl14421.inv  hx14415
  have hS14420 := St.call (A := []) (B := [.blk b13965 [v13962], .gs v13962 c13963 (csz api_Node), .grp ks13964, .blk b13944 [v13947]]) hSl14421 hSc14419
  replace hS14420 : St _ _ _ _ _ _ [.blk b13965 [v13962], .gs v13962 c13963 (csz api_Node), .grp ks13964, .blk b13944 [v13947]] := hS14420
  refine e_still rfl trivial hS14410 (o_call hcl14418 rfl rfl rfl) hS14420 (St.lowk hSc14419) ?_
  intro h14422 hS14423
  refine yq 1 [(147, V (w64 (r14414 - 1))), (140, V r13970), (139, v13962), (15, Pt b13965 0), (0, V x13732), (13, Pt b13944 0)] ?_
  obtain ⟨hc14424, ho14293⟩ := chk ho14293
  refine e_val rfl trivial (o_index rfl rfl (by kernel_rfl : slTy _ _ = some (csz api_Node)) (hS14423.dbased (i := 1) rfl (q13961).raw (by omega)) hc14424.1 hc14424.2) ?_
  refine yq 1 [(149, .pointer (some (elemA v13962 r13970 (csz api_Node) 3))), (147, V (w64 (r14414 - 1))), (15, Pt b13965 0), (0, V x13732), (13, Pt b13944 0)] ?_
  obtain ⟨x14425, hx14426, ho14293⟩ := obind ho14293
  obtain ⟨w14431, cs14427, hd14432, ho14433, he14429, ht14430⟩ := hS14423.del (j := 1) rfl (q13961).raw (i := r13970) hx14426
  obtain rfl := drc_api_Node hd14432
  have hF14438 : St _ _ _ _ _ _ ([.gs v13962 c13963 (csz api_Node)] ++ [.blk b13965 [v13962], .grp ks13964, .blk b13944 [v13947]]) := (hS14423.front 1 rfl)
  refine e_mk2 rfl trivial hF14438 (o_sted (z' := (⟨x14425.Kind, x14425.From, x14425.To, w64 (r14414 - 1), x14425.Kids, x14425.Key⟩ : api_Node)) (vs := [V (w64 (r14414 - 1))]) (cs' := [V x14425.Kind, V x14425.From, V x14425.To, V (w64 (r14414 - 1)), w14431, .bool x14425.Key]) hF14438.sub (m := 0) rfl q13961 hx14426 ht14430 rfl rfl rfl (by kernel_rfl) rfl rfl rfl (show DCell.drc _ _ _ from rfl) (show DCell.drc _ _ _ from rfl) rfl) (Zle.refl _) (.keep (hF14438.neB 0 rfl blk_mem) (.keep (hF14438.neB 0 rfl blk_mem) .nil)) ?_
  rintro h14434 c14435 ⟨q14437, hS14436⟩
  replace hS14436 : St _ _ _ _ _ _ [.gs v13962 c14435 (csz api_Node), .blk b13965 [v13962], .grp ks13964, .blk b13944 [v13947]] := hS14436
  refine yf [(15, Pt b13965 0), (0, V x13732), (13, Pt b13944 0)] ?_
  have hS14439 := hS14436.unres
  have hF14444 : St _ _ _ _ _ _ [.gs v13962 c14435 (csz api_Node), .grp ks13964, .blk b13965 [v13962], .blk b13944 [v13947]] := ((hS14439.front 2 rfl).front 1 rfl)
  obtain ⟨Z14440, hZ14441, q14442, hS14443⟩ := hF14444.shallow q14437
  replace hS14443 : St _ _ _ _ _ _ [.gs v13962 c14435 (csz api_Node), .blk b13965 [v13962], .blk b13944 [v13947]] := hS14443
  obtain rfl := Option.some.inj ho14293
  exact ⟨_, x13945, r13950.Nodes.set r13970.toNat (⟨x14425.Kind, x14425.From, x14425.To, w64 (r14414 - 1), x14425.Kids, x14425.Key⟩ : api_Node), b13944, v13947, b13965, v13962, c14435, rfl, (q13946.mono (hZ13959.trans hZ14441)), q14442, rfl, (((hS14443.front 0 rfl).front 1 rfl).front 2 rfl)⟩
  refine r_step rfl trivial (o_cmp rfl rfl (c_eql_F hp14407)) ?_
  refine xe 1 [(136, .bool false), (101, V r14295), (16, V r13970), (15, Pt b13965 0), (0, V x13732), (5, V a5), (13, Pt b13944 0)] ?_
  refine cF 136 rfl ?_
  refine sr r6_22 ?_
  rcases ifs ho14293 with ⟨hp14446, ho14293⟩ | ⟨hp14446, ho14293⟩
  refine r_step rfl trivial (o_cmp rfl rfl (c_eql_T hp14446)) ?_
  refine xe 1 [(150, .bool true), (101, V r14295), (16, V r13970), (15, Pt b13965 0), (0, V x13732), (5, V a5), (13, Pt b13944 0)] ?_
  refine cT 150 rfl ?_
  refine rgF r6_23 hS14301 ?_
  intro bs14447 h14448 hlv14450 hS14449
  refine yq 1 [(152, Pt b13965 0), (16, V r13970), (15, Pt b13965 0), (0, V x13732), (5, V a5), (13, Pt b13944 0)] ?_
  have lt14451 : b13965 < bs14447 := hlv14450.1 _ (List.mem_of_getElem? (i := 0) rfl) _ (by simp [Itm.ids])
  refine e_lookB rfl trivial rfl (by show b13965 < _; omega) (same1 (v := v13962) (hS14449.gsim1 (i := 1) rfl)) (o_ldb (v := v13962) hS14449 (i := 0) rfl rfl (by kernel_rfl)) trivial ?_
  refine yq 2 [(155, Pt b13965 0), (154, V r13970), (153, v13962), (16, V r13970), (15, Pt b13965 0), (0, V x13732), (5, V a5), (13, Pt b13944 0)] ?_
  have lt14452 : b13965 < bs14447 := hlv14450.1 _ (List.mem_of_getElem? (i := 0) rfl) _ (by simp [Itm.ids])
  refine e_lookB rfl trivial rfl (by show b13965 < _; omega) (same1 (v := v13962) (hS14449.gsim1 (i := 1) rfl)) (o_ldb (v := v13962) hS14449 (i := 0) rfl rfl (by kernel_rfl)) trivial ?_
  refine yq 1 [(157, V r13970), (156, v13962), (154, V r13970), (153, v13962), (15, Pt b13965 0), (0, V x13732), (5, V a5), (13, Pt b13944 0)] ?_
  obtain ⟨hc14453, ho14293⟩ := chk ho14293
  refine e_val rfl trivial (o_index rfl rfl (by kernel_rfl : slTy _ _ = some (csz api_Node)) (hS14449.dbased (i := 1) rfl (q13961).raw (by omega)) hc14453.1 hc14453.2) ?_
  refine yq 1 [(159, .pointer (some (elemA v13962 r13970 (csz api_Node) 4))), (154, V r13970), (153, v13962), (15, Pt b13965 0), (0, V x13732), (5, V a5), (13, Pt b13944 0)] ?_
  obtain ⟨x14454, hx14455, ho14293⟩ := obind ho14293
  have hF14456 : St _ _ _ _ _ _ [.gs v13962 c13963 (csz api_Node), .grp ks13964, .blk b13965 [v13962], .blk b13944 [v13947]] := ((hS14449.front 2 rfl).front 2 rfl)
  obtain ⟨v14457, cs14458, c14459, ks14460, hd14461, he14462, q14463, hH14464, hS14465⟩ := hF14456.dtake q13961 (i := r13970) hx14455
  obtain rfl := drc_api_Node hd14461
  replace q14463 : RCs (α := Int) Z13958 c14459 x14454.Kids := q14463
  replace hS14465 : St _ _ _ _ _ _ [.gs v14457 c14459 (csz Int), .gs v13962 c13963 (csz api_Node), .grp ks14460, .blk b13965 [v13962], .blk b13944 [v13947]] := hS14465
  refine e_lookN rfl rfl trivial (o_lde (w := v14457) he14462 rfl (by kernel_rfl)) trivial ?_
  refine yq 2 [(162, Pt b13965 0), (161, V a5), (160, v14457), (154, V r13970), (153, v13962), (15, Pt b13965 0), (0, V x13732), (13, Pt b13944 0)] ?_
  refine e_lookN rfl rfl trivial (o_ldb (v := v13962) hS14465 (i := 3) rfl rfl (by kernel_rfl)) trivial ?_
  refine e_val rfl trivial (o_len rfl (hS14465.dlen (i := 1) rfl (hH14464).raw) ⟨_, Go.Proofs.Try.underlying25⟩) ?_
  refine yq 1 [(165, V (w64 ((r13950.Nodes.length : Int) + 1))), (161, V a5), (160, v14457), (154, V r13970), (153, v13962), (15, Pt b13965 0), (0, V x13732), (13, Pt b13944 0)] ?_
  obtain ⟨r14466, hx14467, ho14293⟩ := obind ho14293
  have hSl14473 := hS14465.lown
  obtain ⟨v14468, h14469, hcl14470, hSc14471, rfl⟩ := correctorlaw10_within_ok F hSl14473.inv  hx14467
  have hS14472 := St.call (A := []) (B := [.gs v14457 c14459 (csz Int), .gs v13962 c13963 (csz api_Node), .grp ks14460, .blk b13965 [v13962], .blk b13944 [v13947]]) hSl14473 hSc14471
  replace hS14472 : St _ _ _ _ _ _ [.gs v14457 c14459 (csz Int), .gs v13962 c13963 (csz api_Node), .grp ks14460, .blk b13965 [v13962], .blk b13944 [v13947]] := hS14472
  refine e_still rfl trivial hS14465 (o_call hcl14470 rfl rfl rfl) hS14472 (St.lowk hSc14471) ?_
  intro h14474 hS14475
  have q14479 : RCs (α := Int) Z13958 [V r14466] ([r14466] : List Int) := RCs.cons (cs := [V r14466]) rfl (RCs.nil0 _)
  refine e_row rfl trivial (o_bs (cells := [V r14466]) (s := 1) (by kernel_rfl)) (by kernel_rfl) hS14475 (by omega) (Nat.add_lt_add_left (by decide) _) ?_
  intro v14476 h14477 b14480 eb14481 ec14482 hS14478
  replace hS14478 : St _ _ _ _ _ _ [.gs v14476 [V r14466] (csz Int), .gs v14457 c14459 (csz Int), .gs v13962 c13963 (csz api_Node), .grp ks14460, .blk b13965 [v13962], .blk b13944 [v13947]] := hS14478
  obtain ⟨hc14489, ho14293⟩ := chk ho14293
  have hF14490 : St _ _ _ _ _ _ ([.gs v14457 c14459 (csz Int)] ++ [.gs v14476 [V r14466] (csz Int), .gs v13962 c13963 (csz api_Node), .grp ks14460, .blk b13965 [v13962], .blk b13944 [v13947]]) := (hS14478.front 1 rfl)
  refine e_mk3 rfl trivial hF14490 (o_app (ys := ([r14466] : List Int)) (by_ := 8) hF14490.sub (i := 0) rfl q14463 ((hS14478.lown).gnews (j := 0) rfl q14479) rfl rfl (by kernel_rfl) (by omega) (by omega)) (Zle.refl _) (.drop (by decide) (.drop (by decide) (.keep (hF14490.neB 3 rfl blk_mem) (.keep (hF14490.neB 3 rfl blk_mem) .nil)))) ?_
  rintro v14484 c14485 h14486 ⟨q14488, hS14487⟩
  replace hS14487 : St _ _ _ _ _ _ [.gs v14484 c14485 (csz Int), .gs v14476 [V r14466] (csz Int), .gs v13962 c13963 (csz api_Node), .grp ks14460, .blk b13965 [v13962], .blk b13944 [v13947]] := hS14487
  obtain ⟨hc14491, ho14293⟩ := chk ho14293
  refine e_val rfl trivial (o_index rfl rfl (by kernel_rfl : slTy _ _ = some (csz api_Node)) (hS14487.dbased (i := 2) rfl (hH14464).raw (by omega)) hc14491.1 hc14491.2) ?_
  refine yq 1 [(170, .pointer (some (elemA v13962 r13970 (csz api_Node) 4))), (168, v14484), (15, Pt b13965 0), (0, V x13732), (13, Pt b13944 0)] ?_
  have hF14492 : St _ _ _ _ _ _ [.gs v14484 c14485 (csz Int), .gs v13962 c13963 (csz api_Node), .grp ks14460, .gs v14476 [V r14466] (csz Int), .blk b13965 [v13962], .blk b13944 [v13947]] := (((hS14487.front 3 rfl).front 3 rfl).front 2 rfl)
  have hF14498 : St _ _ _ _ _ _ ([.gs v14484 c14485 (csz Int), .gs v13962 c13963 (csz api_Node), .grp ks14460] ++ [.gs v14476 [V r14466] (csz Int), .blk b13965 [v13962], .blk b13944 [v13947]]) := hF14492
  refine e_mk4 rfl trivial hF14498 (o_dput (z' := (⟨x14454.Kind, x14454.From, x14454.To, x14454.Up, x14454.Kids ++ ([r14466] : List Int), x14454.Key⟩ : api_Node)) hF14498.sub hH14464 q14488 hx14455 rfl rfl (by kernel_rfl) (by kernel_rfl) hd14461 rfl (show DCell.drc _ _ _ from rfl) rfl) (Zle.refl _) (.drop (by decide) (.drop (by decide) (.keep (hF14498.neB 1 rfl blk_mem) (.keep (hF14498.neB 1 rfl blk_mem) .nil)))) ?_
  rintro h14493 c14494 ks14495 ⟨q14496, hS14497⟩
  replace hS14497 : St _ _ _ _ _ _ [.gs v13962 c14494 (csz api_Node), .grp ks14495, .gs v14476 [V r14466] (csz Int), .blk b13965 [v13962], .blk b13944 [v13947]] := hS14497
  refine yf [(15, Pt b13965 0), (0, V x13732), (13, Pt b13944 0)] ?_
  have hS14499 := hS14497.unres
  have hF14504 : St _ _ _ _ _ _ [.gs v13962 c14494 (csz api_Node), .grp ks14495, .gs v14476 [V r14466] (csz Int), .blk b13965 [v13962], .blk b13944 [v13947]] := ((hS14499.front 1 rfl).front 1 rfl)
  obtain ⟨Z14500, hZ14501, q14502, hS14503⟩ := hF14504.shallow q14496
  replace hS14503 : St _ _ _ _ _ _ [.gs v13962 c14494 (csz api_Node), .gs v14476 [V r14466] (csz Int), .blk b13965 [v13962], .blk b13944 [v13947]] := hS14503
  obtain rfl := Option.some.inj ho14293
  exact ⟨_, x13945, r13950.Nodes.set r13970.toNat (⟨x14454.Kind, x14454.From, x14454.To, x14454.Up, x14454.Kids ++ ([r14466] : List Int), x14454.Key⟩ : api_Node), b13944, v13947, b13965, v13962, c14494, rfl, (q13946.mono (hZ13959.trans hZ14501)), q14502, rfl, ((((hS14503.front 0 rfl).front 2 rfl).front 3 rfl).takeN 3)⟩
  refine r_step rfl trivial (o_cmp rfl rfl (c_eql_F hp14446)) ?_
  refine xe 1 [(150, .bool false), (101, V r14295), (16, V r13970), (15, Pt b13965 0), (0, V x13732), (5, V a5), (13, Pt b13944 0)] ?_
  refine cF 150 rfl ?_
  refine sr r6_24 ?_
  rcases ifs ho14293 with ⟨hp14506, ho14293⟩ | ⟨hp14506, ho14293⟩
  refine r_step rfl trivial (o_cmp rfl rfl (c_eql_T hp14506)) ?_
  refine xe 1 [(171, .bool true), (101, V r14295), (16, V r13970), (15, Pt b13965 0), (0, V x13732), (5, V a5), (13, Pt b13944 0)] ?_
  refine cT 171 rfl ?_
  refine sr r6_25 ?_
  refine xq 1 [(173, Pt b13965 0), (16, V r13970), (15, Pt b13965 0), (0, V x13732), (13, Pt b13944 0)] ?_
  refine r_step rfl trivial (o_ldb (v := v13962) hS14301 (i := 0) rfl rfl (by kernel_rfl)) ?_
  refine xq 1 [(175, V r13970), (174, v13962), (16, V r13970), (15, Pt b13965 0), (0, V x13732), (13, Pt b13944 0)] ?_
  obtain ⟨hc14507, ho14293⟩ := chk ho14293
  refine r_step rfl trivial (o_index rfl rfl (by kernel_rfl : slTy _ _ = some (csz api_Node)) (hS14301.dbased (i := 1) rfl (q13961).raw (by omega)) hc14507.1 hc14507.2) ?_
  refine xq 1 [(177, .pointer (some (elemA v13962 r13970 (csz api_Node) 4))), (16, V r13970), (15, Pt b13965 0), (0, V x13732), (13, Pt b13944 0)] ?_
  have hF14513 : St _ _ _ _ _ _ [.gs v13962 c13963 (csz api_Node), .grp ks13964, .blk b13965 [v13962], .blk b13944 [v13947]] := ((hS14301.front 2 rfl).front 2 rfl)
  obtain ⟨Z14509, hZ14510, q14511, hS14512⟩ := hF14513.shallow q13961
  replace hS14512 : St _ _ _ _ _ _ [.gs v13962 c13963 (csz api_Node), .blk b13965 [v13962], .blk b13944 [v13947]] := hS14512
  obtain ⟨x14514, hx14515, ho14293⟩ := obind ho14293
  obtain ⟨cs14516, hc14517, he14518, ht14519⟩ := hS14512.gel (j := 0) rfl q14511 (i := r13970) hx14515
  obtain ⟨v14520, q14521, rfl⟩ := rc_api_Node hc14517
  refine r_step rfl trivial (o_lde (w := v14520) he14518 rfl (by kernel_rfl)) ?_
  refine r_step rfl trivial (o_len rfl (RS.len q14521) ⟨_, Go.Proofs.Try.underlying44⟩) ?_
  refine xe 1 [(17, V (x14514.Kids.length : Int)), (16, V r13970), (15, Pt b13965 0), (0, V x13732), (13, Pt b13944 0)] ?_
  refine sr r6_26 ?_
  refine xq 1 [(180, V (x14514.Kids.length : Int)), (17, V (x14514.Kids.length : Int)), (16, V r13970), (15, Pt b13965 0), (0, V x13732), (13, Pt b13944 0)] ?_
  rcases ifs ho14293 with ⟨hp14523, ho14293⟩ | ⟨hp14523, ho14293⟩
  refine r_step rfl trivial (o_cmp rfl rfl (c_gtr_T hp14523)) ?_
  refine xf [(181, .bool true), (17, V (x14514.Kids.length : Int)), (16, V r13970), (15, Pt b13965 0), (0, V x13732), (13, Pt b13944 0)] ?_
  refine cT 181 rfl ?_
  refine rgF r6_27 hS14512 ?_
  intro bs14524 h14525 hlv14527 hS14526
  refine yq 1 [(182, Pt b13965 0), (17, V (x14514.Kids.length : Int)), (16, V r13970), (15, Pt b13965 0), (0, V x13732), (13, Pt b13944 0)] ?_
  have lt14528 : b13965 < bs14524 := hlv14527.1 _ (List.mem_of_getElem? (i := 1) rfl) _ (by simp [Itm.ids])
  refine e_lookB rfl trivial rfl (by show b13965 < _; omega) (same1 (v := v13962) (hS14526.gsim1 (i := 0) rfl)) (o_ldb (v := v13962) hS14526 (i := 1) rfl rfl (by kernel_rfl)) trivial ?_
  refine yq 2 [(185, Pt b13965 0), (184, V r13970), (183, v13962), (17, V (x14514.Kids.length : Int)), (16, V r13970), (15, Pt b13965 0), (0, V x13732), (13, Pt b13944 0)] ?_
  have lt14529 : b13965 < bs14524 := hlv14527.1 _ (List.mem_of_getElem? (i := 1) rfl) _ (by simp [Itm.ids])
  refine e_lookB rfl trivial rfl (by show b13965 < _; omega) (same1 (v := v13962) (hS14526.gsim1 (i := 0) rfl)) (o_ldb (v := v13962) hS14526 (i := 1) rfl rfl (by kernel_rfl)) trivial ?_
  refine yq 1 [(187, V r13970), (186, v13962), (184, V r13970), (183, v13962), (17, V (x14514.Kids.length : Int)), (15, Pt b13965 0), (0, V x13732), (13, Pt b13944 0)] ?_
  obtain ⟨hc14530, ho14293⟩ := chk ho14293
  refine e_val rfl trivial (o_index rfl rfl (by kernel_rfl : slTy _ _ = some (csz api_Node)) (hS14526.gbased (j := 0) rfl q14511 (by omega)) hc14530.1 hc14530.2) ?_
  refine yq 1 [(189, .pointer (some (elemA v13962 r13970 (csz api_Node) 4))), (184, V r13970), (183, v13962), (17, V (x14514.Kids.length : Int)), (15, Pt b13965 0), (0, V x13732), (13, Pt b13944 0)] ?_
  obtain ⟨x14531, hx14532, ho14293⟩ := obind ho14293
  obtain ⟨cs14533, hc14534, he14535, ht14536⟩ := hS14526.gel (j := 0) rfl q14511 (i := r13970) hx14532
  obtain ⟨v14537, q14538, rfl⟩ := rc_api_Node hc14534
  have ps14539 := pos_of hx14532
  have hB14540 := hS14526.gbased (j := 0) rfl q14511 ps14539
  have lt14541 : (baseOf v13962).block < bs14524 := row_ltM (hlv14527.1 _ (List.mem_of_getElem? (i := 0) rfl)) hB14540
  refine e_lookB rfl trivial rfl (by show (baseOf v13962).block < _; omega) (same1 (v := v14537) (RS.sim1 q14538)) (o_lde (w := v14537) he14535 rfl (by kernel_rfl)) trivial ?_
  refine yq 2 [(192, V (w64 ((x14514.Kids.length : Int) - 1))), (190, v14537), (184, V r13970), (183, v13962), (15, Pt b13965 0), (0, V x13732), (13, Pt b13944 0)] ?_
  obtain ⟨hc14545, ho14293⟩ := chk ho14293
  refine e_exv rfl trivial (o_slice (a := 0) (b := w64 ((x14514.Kids.length : Int) - 1)) q14538 rfl (by kernel_rfl : slTy _ _ = some (csz Int)) rfl ⟨_, rfl⟩ hc14545.1 hc14545.2.1 hc14545.2.2) ?_
  intro v14542 q14543
  obtain ⟨hc14546, ho14293⟩ := chk ho14293
  refine e_val rfl trivial (o_index rfl rfl (by kernel_rfl : slTy _ _ = some (csz api_Node)) (hS14526.gbased (j := 0) rfl q14511 (by omega)) hc14546.1 hc14546.2) ?_
  refine yq 1 [(195, .pointer (some (elemA v13962 r13970 (csz api_Node) 4))), (193, v14542), (15, Pt b13965 0), (0, V x13732), (13, Pt b13944 0)] ?_
  obtain ⟨x14547, hx14548, ho14293⟩ := obind ho14293
  obtain ⟨cs14549, hc14550, he14551, ht14552⟩ := hS14526.gel (j := 0) rfl q14511 (i := r13970) hx14548
  obtain ⟨v14553, q14554, rfl⟩ := rc_api_Node hc14550
  have hF14559 : St _ _ _ _ _ _ ([.gs v13962 c13963 (csz api_Node)] ++ [.blk b13965 [v13962], .blk b13944 [v13947]]) := (hS14526.front 0 rfl)
  refine e_mk2 rfl trivial hF14559 (o_ste (u' := (⟨x14547.Kind, x14547.From, x14547.To, x14547.Up, (x14531.Kids.take (w64 ((x14514.Kids.length : Int) - 1)).toNat).drop (0 : Int).toNat, x14547.Key⟩ : api_Node)) (vs := [v14542]) (cs' := [V x14547.Kind, V x14547.From, V x14547.To, V x14547.Up, v14542, .bool x14547.Key]) hF14559.sub (m := 0) rfl q14511 hx14548 ht14552 rfl rfl (RS.cell1 q14543) (by kernel_rfl) (one_cons (RS.one1 q14543) one_nil) rfl rfl ⟨_, q14543, rfl⟩) (Zle.refl _) (.drop (by decide) (.keep (hF14559.neB 0 rfl blk_mem) (.keep (hF14559.neB 0 rfl blk_mem) .nil))) ?_
  rintro h14555 c14556 ⟨q14558, hS14557⟩
  replace hS14557 : St _ _ _ _ _ _ [.gs v13962 c14556 (csz api_Node), .blk b13965 [v13962], .blk b13944 [v13947]] := hS14557
  refine yf [(15, Pt b13965 0), (0, V x13732), (13, Pt b13944 0)] ?_
  have hS14560 := hS14557.unres
  obtain rfl := Option.some.inj ho14293
  exact ⟨_, x13945, r13950.Nodes.set r13970.toNat (⟨x14547.Kind, x14547.From, x14547.To, x14547.Up, (x14531.Kids.take (w64 ((x14514.Kids.length : Int) - 1)).toNat).drop (0 : Int).toNat, x14547.Key⟩ : api_Node), b13944, v13947, b13965, v13962, c14556, rfl, (q13946.mono (hZ13959.trans hZ14510)), q14558, rfl, (((hS14560.front 0 rfl).front 1 rfl).front 2 rfl)⟩
  refine r_step rfl trivial (o_cmp rfl rfl (c_gtr_F hp14523)) ?_
  refine xf [(181, .bool false), (17, V (x14514.Kids.length : Int)), (16, V r13970), (15, Pt b13965 0), (0, V x13732), (13, Pt b13944 0)] ?_
  refine kF 181 rfl ?_
  obtain rfl := Option.some.inj ho14293
  exact ⟨_, x13945, r13950.Nodes, b13944, v13947, b13965, v13962, c13963, rfl, (q13946.mono (hZ13959.trans hZ14510)), q14511, rfl, (((hS14512.front 0 rfl).front 1 rfl).front 2 rfl)⟩
  refine r_step rfl trivial (o_cmp rfl rfl (c_eql_F hp14506)) ?_
  refine xe 1 [(171, .bool false), (101, V r14295), (16, V r13970), (15, Pt b13965 0), (0, V x13732), (5, V a5), (13, Pt b13944 0)] ?_
  refine cF 171 rfl ?_
  refine sr r6_28 ?_
  rcases ifs ho14293 with ⟨hp14562, ho14293⟩ | ⟨hp14562, ho14293⟩
  refine r_step rfl trivial (o_cmp rfl rfl (c_eql_T hp14562)) ?_
  refine xe 1 [(196, .bool true), (101, V r14295), (16, V r13970), (15, Pt b13965 0), (0, V x13732), (5, V a5), (13, Pt b13944 0)] ?_
  refine cT 196 rfl ?_
  refine rg r6_29 ?_
  refine xq 1 [(198, Pt b13965 0), (16, V r13970), (15, Pt b13965 0), (0, V x13732), (5, V a5), (13, Pt b13944 0)] ?_
  refine r_step rfl trivial (o_ldb (v := v13962) hS14301 (i := 0) rfl rfl (by kernel_rfl)) ?_
  refine xq 2 [(201, V a5), (200, V r13970), (199, v13962), (15, Pt b13965 0), (0, V x13732), (13, Pt b13944 0)] ?_
  obtain ⟨hc14563, ho14293⟩ := chk ho14293
  refine r_step rfl trivial (o_index rfl rfl (by kernel_rfl : slTy _ _ = some (csz api_Node)) (hS14301.dbased (i := 1) rfl (q13961).raw (by omega)) hc14563.1 hc14563.2) ?_
  refine xq 1 [(203, .pointer (some (elemA v13962 r13970 (csz api_Node) 0))), (201, V a5), (15, Pt b13965 0), (0, V x13732), (13, Pt b13944 0)] ?_
  obtain ⟨x14564, hx14565, ho14293⟩ := obind ho14293
  obtain ⟨w14570, cs14566, hd14571, ho14572, he14568, ht14569⟩ := hS14301.del (j := 1) rfl (q13961).raw (i := r13970) hx14565
  obtain rfl := drc_api_Node hd14571
  refine r_ex2 rfl trivial (o_sted (z' := (⟨a5, x14564.From, x14564.To, x14564.Up, x14564.Kids, x14564.Key⟩ : api_Node)) (vs := [V a5]) (cs' := [V a5, V x14564.From, V x14564.To, V x14564.Up, w14570, .bool x14564.Key]) hS14301 (m := 1) rfl q13961 hx14565 ht14569 rfl rfl rfl (by kernel_rfl) rfl rfl rfl (show DCell.drc _ _ _ from rfl) (show DCell.drc _ _ _ from rfl) rfl) ?_
  rintro h14573 c14574 ⟨q14576, hS14575⟩
  replace hS14575 : St _ _ _ _ _ _ [.blk b13965 [v13962], .gs v13962 c14574 (csz api_Node), .grp ks13964, .blk b13944 [v13947]] := hS14575
  refine xf [(15, Pt b13965 0), (0, V x13732), (13, Pt b13944 0)] ?_
  have hF14581 : St _ _ _ _ _ _ [.gs v13962 c14574 (csz api_Node), .grp ks13964, .blk b13965 [v13962], .blk b13944 [v13947]] := ((hS14575.front 2 rfl).front 2 rfl)
  obtain ⟨Z14577, hZ14578, q14579, hS14580⟩ := hF14581.shallow q14576
  replace hS14580 : St _ _ _ _ _ _ [.gs v13962 c14574 (csz api_Node), .blk b13965 [v13962], .blk b13944 [v13947]] := hS14580
  obtain rfl := Option.some.inj ho14293
  exact ⟨_, x13945, r13950.Nodes.set r13970.toNat (⟨a5, x14564.From, x14564.To, x14564.Up, x14564.Kids, x14564.Key⟩ : api_Node), b13944, v13947, b13965, v13962, c14574, rfl, (q13946.mono (hZ13959.trans hZ14578)), q14579, rfl, (((hS14580.front 0 rfl).front 1 rfl).front 2 rfl)⟩
  refine r_step rfl trivial (o_cmp rfl rfl (c_eql_F hp14562)) ?_
  refine xe 1 [(196, .bool false), (101, V r14295), (16, V r13970), (15, Pt b13965 0), (0, V x13732), (5, V a5), (13, Pt b13944 0)] ?_
  refine cF 196 rfl ?_
  refine sr r6_30 ?_
  rcases ifs ho14293 with ⟨hp14583, ho14293⟩ | ⟨hp14583, ho14293⟩
  refine r_step rfl trivial (o_cmp rfl rfl (c_eql_T hp14583)) ?_
  refine xe 1 [(204, .bool true), (16, V r13970), (15, Pt b13965 0), (0, V x13732), (13, Pt b13944 0)] ?_
  refine cT 204 rfl ?_
  refine rgF r6_31 hS14301 ?_
  intro bs14584 h14585 hlv14587 hS14586
  refine yq 1 [(206, Pt b13965 0), (16, V r13970), (15, Pt b13965 0), (0, V x13732), (13, Pt b13944 0)] ?_
  have lt14588 : b13965 < bs14584 := hlv14587.1 _ (List.mem_of_getElem? (i := 0) rfl) _ (by simp [Itm.ids])
  refine e_lookB rfl trivial rfl (by show b13965 < _; omega) (same1 (v := v13962) (hS14586.gsim1 (i := 1) rfl)) (o_ldb (v := v13962) hS14586 (i := 0) rfl rfl (by kernel_rfl)) trivial ?_
  refine yq 2 [(209, Pt b13965 0), (208, V r13970), (207, v13962), (16, V r13970), (15, Pt b13965 0), (0, V x13732), (13, Pt b13944 0)] ?_
  have lt14589 : b13965 < bs14584 := hlv14587.1 _ (List.mem_of_getElem? (i := 0) rfl) _ (by simp [Itm.ids])
  refine e_lookB rfl trivial rfl (by show b13965 < _; omega) (same1 (v := v13962) (hS14586.gsim1 (i := 1) rfl)) (o_ldb (v := v13962) hS14586 (i := 0) rfl rfl (by kernel_rfl)) trivial ?_
  refine yq 1 [(211, V r13970), (210, v13962), (208, V r13970), (207, v13962), (15, Pt b13965 0), (0, V x13732), (13, Pt b13944 0)] ?_
  obtain ⟨hc14590, ho14293⟩ := chk ho14293
  refine e_val rfl trivial (o_index rfl rfl (by kernel_rfl : slTy _ _ = some (csz api_Node)) (hS14586.dbased (i := 1) rfl (q13961).raw (by omega)) hc14590.1 hc14590.2) ?_
  refine yq 1 [(213, .pointer (some (elemA v13962 r13970 (csz api_Node) 5))), (208, V r13970), (207, v13962), (15, Pt b13965 0), (0, V x13732), (13, Pt b13944 0)] ?_
  obtain ⟨x14591, hx14592, ho14293⟩ := obind ho14293
  obtain ⟨w14597, cs14593, hd14598, ho14599, he14595, ht14596⟩ := hS14586.del (j := 1) rfl (q13961).raw (i := r13970) hx14592
  obtain rfl := drc_api_Node hd14598
  have ps14600 := pos_of hx14592
  have hB14601 := hS14586.dbased (i := 1) rfl (q13961).raw ps14600
  have lt14602 : (baseOf v13962).block < bs14584 := row_ltM (hlv14587.1 _ (List.mem_of_getElem? (i := 1) rfl)) hB14601
  refine e_lookB rfl trivial rfl (by show (baseOf v13962).block < _; omega) (same1 (v := .bool x14591.Key) trivial) (o_lde (w := .bool x14591.Key) he14595 rfl (by kernel_rfl)) trivial ?_
  rcases ifs ho14293 with ⟨hp14603, ho14293⟩ | ⟨hp14603, ho14293⟩
  refine e_setb (t := 214) rfl hp14603 ?_
  refine yq 1 [(215, .bool false), (208, V r13970), (207, v13962), (15, Pt b13965 0), (0, V x13732), (13, Pt b13944 0)] ?_
  obtain ⟨hc14604, ho14293⟩ := chk ho14293
  refine e_val rfl trivial (o_index rfl rfl (by kernel_rfl : slTy _ _ = some (csz api_Node)) (hS14586.dbased (i := 1) rfl (q13961).raw (by omega)) hc14604.1 hc14604.2) ?_
  refine yq 1 [(217, .pointer (some (elemA v13962 r13970 (csz api_Node) 5))), (215, .bool false), (15, Pt b13965 0), (0, V x13732), (13, Pt b13944 0)] ?_
  obtain ⟨x14605, hx14606, ho14293⟩ := obind ho14293
  obtain ⟨w14611, cs14607, hd14612, ho14613, he14609, ht14610⟩ := hS14586.del (j := 1) rfl (q13961).raw (i := r13970) hx14606
  obtain rfl := drc_api_Node hd14612
  have hF14618 : St _ _ _ _ _ _ ([.gs v13962 c13963 (csz api_Node)] ++ [.blk b13965 [v13962], .grp ks13964, .blk b13944 [v13947]]) := (hS14586.front 1 rfl)
  refine e_mk2 rfl trivial hF14618 (o_sted (z' := (⟨x14605.Kind, x14605.From, x14605.To, x14605.Up, x14605.Kids, false⟩ : api_Node)) (vs := [.bool false]) (cs' := [V x14605.Kind, V x14605.From, V x14605.To, V x14605.Up, w14611, .bool false]) hF14618.sub (m := 0) rfl q13961 hx14606 ht14610 rfl rfl rfl (by kernel_rfl) rfl rfl rfl (show DCell.drc _ _ _ from rfl) (show DCell.drc _ _ _ from rfl) rfl) (Zle.refl _) (.drop (by decide) (.keep (hF14618.neB 0 rfl blk_mem) (.keep (hF14618.neB 0 rfl blk_mem) .nil))) ?_
  rintro h14614 c14615 ⟨q14617, hS14616⟩
  replace hS14616 : St _ _ _ _ _ _ [.gs v13962 c14615 (csz api_Node), .blk b13965 [v13962], .grp ks13964, .blk b13944 [v13947]] := hS14616
  refine yf [(15, Pt b13965 0), (0, V x13732), (13, Pt b13944 0)] ?_
  have hS14619 := hS14616.unres
  have hF14624 : St _ _ _ _ _ _ [.gs v13962 c14615 (csz api_Node), .grp ks13964, .blk b13965 [v13962], .blk b13944 [v13947]] := ((hS14619.front 2 rfl).front 1 rfl)
  obtain ⟨Z14620, hZ14621, q14622, hS14623⟩ := hF14624.shallow q14617
  replace hS14623 : St _ _ _ _ _ _ [.gs v13962 c14615 (csz api_Node), .blk b13965 [v13962], .blk b13944 [v13947]] := hS14623
  obtain rfl := Option.some.inj ho14293
  exact ⟨_, x13945, r13950.Nodes.set r13970.toNat (⟨x14605.Kind, x14605.From, x14605.To, x14605.Up, x14605.Kids, false⟩ : api_Node), b13944, v13947, b13965, v13962, c14615, rfl, (q13946.mono (hZ13959.trans hZ14621)), q14622, rfl, (((hS14623.front 0 rfl).front 1 rfl).front 2 rfl)⟩
  refine e_setb (t := 214) rfl (Bool.eq_false_iff.2 hp14603) ?_
  refine yq 1 [(215, .bool true), (208, V r13970), (207, v13962), (15, Pt b13965 0), (0, V x13732), (13, Pt b13944 0)] ?_
  obtain ⟨hc14625, ho14293⟩ := chk ho14293
  refine e_val rfl trivial (o_index rfl rfl (by kernel_rfl : slTy _ _ = some (csz api_Node)) (hS14586.dbased (i := 1) rfl (q13961).raw (by omega)) hc14625.1 hc14625.2) ?_
  refine yq 1 [(217, .pointer (some (elemA v13962 r13970 (csz api_Node) 5))), (215, .bool true), (15, Pt b13965 0), (0, V x13732), (13, Pt b13944 0)] ?_
  obtain ⟨x14626, hx14627, ho14293⟩ := obind ho14293
  obtain ⟨w14632, cs14628, hd14633, ho14634, he14630, ht14631⟩ := hS14586.del (j := 1) rfl (q13961).raw (i := r13970) hx14627
  obtain rfl := drc_api_Node hd14633
  have hF14639 : St _ _ _ _ _ _ ([.gs v13962 c13963 (csz api_Node)] ++ [.blk b13965 [v13962], .grp ks13964, .blk b13944 [v13947]]) := (hS14586.front 1 rfl)
  refine e_mk2 rfl trivial hF14639 (o_sted (z' := (⟨x14626.Kind, x14626.From, x14626.To, x14626.Up, x14626.Kids, true⟩ : api_Node)) (vs := [.bool true]) (cs' := [V x14626.Kind, V x14626.From, V x14626.To, V x14626.Up, w14632, .bool true]) hF14639.sub (m := 0) rfl q13961 hx14627 ht14631 rfl rfl rfl (by kernel_rfl) rfl rfl rfl (show DCell.drc _ _ _ from rfl) (show DCell.drc _ _ _ from rfl) rfl) (Zle.refl _) (.drop (by decide) (.keep (hF14639.neB 0 rfl blk_mem) (.keep (hF14639.neB 0 rfl blk_mem) .nil))) ?_
  rintro h14635 c14636 ⟨q14638, hS14637⟩
  replace hS14637 : St _ _ _ _ _ _ [.gs v13962 c14636 (csz api_Node), .blk b13965 [v13962], .grp ks13964, .blk b13944 [v13947]] := hS14637
  refine yf [(15, Pt b13965 0), (0, V x13732), (13, Pt b13944 0)] ?_
  have hS14640 := hS14637.unres
  have hF14645 : St _ _ _ _ _ _ [.gs v13962 c14636 (csz api_Node), .grp ks13964, .blk b13965 [v13962], .blk b13944 [v13947]] := ((hS14640.front 2 rfl).front 1 rfl)
  obtain ⟨Z14641, hZ14642, q14643, hS14644⟩ := hF14645.shallow q14638
  replace hS14644 : St _ _ _ _ _ _ [.gs v13962 c14636 (csz api_Node), .blk b13965 [v13962], .blk b13944 [v13947]] := hS14644
  obtain rfl := Option.some.inj ho14293
  exact ⟨_, x13945, r13950.Nodes.set r13970.toNat (⟨x14626.Kind, x14626.From, x14626.To, x14626.Up, x14626.Kids, true⟩ : api_Node), b13944, v13947, b13965, v13962, c14636, rfl, (q13946.mono (hZ13959.trans hZ14642)), q14643, rfl, (((hS14644.front 0 rfl).front 1 rfl).front 2 rfl)⟩
  refine r_step rfl trivial (o_cmp rfl rfl (c_eql_F hp14583)) ?_
  refine xe 1 [(204, .bool false), (16, V r13970), (15, Pt b13965 0), (0, V x13732), (13, Pt b13944 0)] ?_
  refine kF 204 rfl ?_
  have hF14650 : St _ _ _ _ _ _ [.gs v13962 c13963 (csz api_Node), .grp ks13964, .blk b13965 [v13962], .blk b13944 [v13947]] := ((hS14301.front 2 rfl).front 2 rfl)
  obtain ⟨Z14646, hZ14647, q14648, hS14649⟩ := hF14650.shallow q13961
  replace hS14649 : St _ _ _ _ _ _ [.gs v13962 c13963 (csz api_Node), .blk b13965 [v13962], .blk b13944 [v13947]] := hS14649
  obtain rfl := Option.some.inj ho14293
  exact ⟨_, x13945, r13950.Nodes, b13944, v13947, b13965, v13962, c13963, rfl, (q13946.mono (hZ13959.trans hZ14647)), q14648, rfl, (((hS14649.front 0 rfl).front 1 rfl).front 2 rfl)⟩
  refine srF r6_11 hS13738 ?_
  intro bs13842 h13843 hlv13845 hS13844
  have lt13846 : b13733 < bs13842 := hlv13845.1 _ (List.mem_of_getElem? (i := 0) rfl) _ (by simp [Itm.ids])
  refine e_lookB rfl trivial rfl (by show b13733 < _; omega) (same_agg (cs := [v13736]) (.cons (RS.sim1 q13735) .nil)) (o_ldb (v := .agg #[v13736]) hS13844 (i := 0) rfl rfl (by kernel_rfl)) trivial ?_
  obtain ⟨r13847, hx13848, ho13840⟩ := obind ho13840
  have hSl13854 := hS13844.lown
  have hSr13855 : St _ _ _ _ _ _ ([] ++ [.blk b13733 [v13736]]) := hSl13854
  obtain ⟨v13849, h13850, Z13856, A13858, hcl13851, hSc13852, v13860, rfl, rfl, q13859⟩ := correctorlaw10_Of_ok F hSr13855.preL q13735 hx13848
  have hS13853 := hSr13855.call hSc13852
  have hZ13857 := hSc13852.zle
  replace hS13853 : St _ _ _ _ _ _ [.blk b13733 [v13736]] := hS13853
  refine e_still rfl trivial hS13844 (o_call hcl13851 rfl rfl rfl) hS13853 (St.lowk hSc13852) ?_
  intro h13861 hS13862
  refine yq 1 [(76, V x13732), (75, .agg #[v13860]), (0, V x13732), (2, v6648), (3, V a3), (4, V a4), (5, V a5), (13, Pt b13733 0)] ?_
  obtain ⟨r13863, hx13864, ho13840⟩ := obind ho13840
  have hSl13870 := hS13862.lown
  obtain ⟨v13865, h13866, hcl13867, hSc13868, rfl⟩ := arena_Check_ok F hSl13870.inv q13859 hx13864
  have hS13869 := St.call (A := []) (B := [.blk b13733 [v13736]]) hSl13870 hSc13868
  replace hS13869 : St _ _ _ _ _ _ [.blk b13733 [v13736]] := hS13869
  refine e_still rfl trivial hS13862 (o_call hcl13867 rfl rfl rfl) hS13869 (St.lowk hSc13868) ?_
  intro h13871 hS13872
  have lt13873 : b13733 < bs13842 := hlv13845.1 _ (List.mem_of_getElem? (i := 0) rfl) _ (by simp [Itm.ids])
  refine e_lookB rfl trivial rfl (by show b13733 < _; omega) (same_agg (cs := [v13736]) (.cons (RS.sim1 (q13735.mono hZ13857)) .nil)) (o_ldb (v := .agg #[v13736]) hS13872 (i := 0) rfl rfl (by kernel_rfl)) trivial ?_
  refine yq 1 [(79, V x13732), (78, .agg #[v13736]), (77, .bool r13863), (0, V x13732), (2, v6648), (3, V a3), (4, V a4), (5, V a5), (13, Pt b13733 0)] ?_
  obtain ⟨r13874, hx13875, ho13840⟩ := obind ho13840
  have hSl13881 := hS13872.lown
  obtain ⟨v13876, h13877, hcl13878, hSc13879, rfl⟩ := correctorref10_Check_ok F hSl13881.inv (q13735.mono hZ13857) hx13875
  have hS13880 := St.call (A := []) (B := [.blk b13733 [v13736]]) hSl13881 hSc13879
  replace hS13880 : St _ _ _ _ _ _ [.blk b13733 [v13736]] := hS13880
  refine e_still rfl trivial hS13872 (o_call hcl13878 rfl rfl rfl) hS13880 (St.lowk hSc13879) ?_
  intro h13882 hS13883
  rcases ifs ho13840 with ⟨hp13884, ho13840⟩ | ⟨hp13884, ho13840⟩
  refine e_setb (t := 77) rfl hp13884 ?_
  rcases ifs ho13840 with ⟨hp13885, ho13840⟩ | ⟨hp13885, ho13840⟩
  refine e_setb (t := 80) rfl hp13885 ?_
  refine e_val rfl trivial (o_cmp (w := false) rfl rfl (by kernel_rfl)) ?_
  refine yq 2 [(83, v6648), (82, .bool false), (0, V x13732), (2, v6648), (3, V a3), (4, V a4), (5, V a5), (13, Pt b13733 0)] ?_
  refine e_val rfl rfl (o_build (v := .agg #[v6648]) rfl (CA.cons (cs := [v6648]) (RS.cell1 (q6647.mono (hS13738.zle.trans hZ13857))) (CA.nil0)) (by kernel_rfl)) ?_
  refine yq 1 [(85, V x13732), (84, .agg #[v6648]), (82, .bool false), (0, V x13732), (2, v6648), (3, V a3), (4, V a4), (5, V a5), (13, Pt b13733 0)] ?_
  obtain ⟨r13886, hx13887, ho13840⟩ := obind ho13840
  have hSl13893 := hS13883.lown
  obtain ⟨v13888, h13889, hcl13890, hSc13891, rfl⟩ := arena_Check_ok F hSl13893.inv (q6647.mono (hS13738.zle.trans hZ13857)) hx13887
  have hS13892 := St.call (A := []) (B := [.blk b13733 [v13736]]) hSl13893 hSc13891
  replace hS13892 : St _ _ _ _ _ _ [.blk b13733 [v13736]] := hS13892
  refine e_still rfl rfl hS13883 (o_call hcl13890 rfl rfl rfl) hS13892 (St.lowk hSc13891) ?_
  intro h13894 hS13895
  refine yq 1 [(87, v6648), (86, .bool r13886), (82, .bool false), (0, V x13732), (3, V a3), (4, V a4), (5, V a5), (13, Pt b13733 0)] ?_
  refine e_val rfl rfl (o_build (v := .agg #[v6648]) rfl (CA.cons (cs := [v6648]) (RS.cell1 (q6647.mono (hS13738.zle.trans hZ13857))) (CA.nil0)) (by kernel_rfl)) ?_
  refine yq 1 [(89, V x13732), (88, .agg #[v6648]), (86, .bool r13886), (82, .bool false), (0, V x13732), (3, V a3), (4, V a4), (5, V a5), (13, Pt b13733 0)] ?_
  obtain ⟨r13896, hx13897, ho13840⟩ := obind ho13840
  have hSl13903 := hS13895.lown
  obtain ⟨v13898, h13899, hcl13900, hSc13901, rfl⟩ := correctorref10_Check_ok F hSl13903.inv (q6647.mono (hS13738.zle.trans hZ13857)) hx13897
  have hS13902 := St.call (A := []) (B := [.blk b13733 [v13736]]) hSl13903 hSc13901
  replace hS13902 : St _ _ _ _ _ _ [.blk b13733 [v13736]] := hS13902
  refine e_still rfl rfl hS13895 (o_call hcl13900 rfl rfl rfl) hS13902 (St.lowk hSc13901) ?_
  intro h13904 hS13905
  rcases ifs ho13840 with ⟨hp13906, ho13840⟩ | ⟨hp13906, ho13840⟩
  refine e_setb (t := 86) rfl hp13906 ?_
  rcases ifs ho13840 with ⟨hp13907, ho13840⟩ | ⟨hp13907, ho13840⟩
  refine e_setb (t := 90) rfl hp13907 ?_
  refine e_val rfl rfl (o_cmp (w := false) rfl rfl (by kernel_rfl)) ?_
  refine ye 1 [(92, .bool false), (0, V x13732), (3, V a3), (4, V a4), (5, V a5), (13, Pt b13733 0)] ?_
  have hS13908 := hS13905.unres
  refine kF 92 rfl ?_
  obtain rfl := Option.some.inj ho13840
  exact ⟨_, x13734, b13733, v13736, rfl, (q13735.mono hZ13857), rfl, hS13908⟩
  refine e_setb (t := 90) rfl (Bool.eq_false_iff.2 hp13907) ?_
  refine e_val rfl rfl (o_cmp (w := true) rfl rfl (by kernel_rfl)) ?_
  refine ye 1 [(92, .bool true), (0, V x13732), (3, V a3), (4, V a4), (5, V a5), (13, Pt b13733 0)] ?_
  have hS13909 := hS13905.unres
  refine cT 92 rfl ?_
  refine sr r6_12 ?_
  refine xe 1 [(12, .bool false)] ?_
  refine rt ?_
  refine ⟨rfl, ?_⟩
  obtain rfl := Option.some.inj ho13840
  obtain rfl := Option.some.inj hm
  refine ⟨_, _, _, ResL.tmp rfl (ResL.nil), hS13909, ?_⟩
  exact rfl
  refine e_setb (t := 86) rfl (Bool.eq_false_iff.2 hp13906) ?_
  rcases ifs ho13840 with ⟨hp13910, ho13840⟩ | ⟨hp13910, ho13840⟩
  refine e_setb (t := 90) rfl hp13910 ?_
  refine e_val rfl rfl (o_cmp (w := true) rfl rfl (by kernel_rfl)) ?_
  refine ye 1 [(92, .bool true), (0, V x13732), (3, V a3), (4, V a4), (5, V a5), (13, Pt b13733 0)] ?_
  have hS13911 := hS13905.unres
  refine cT 92 rfl ?_
  refine sr r6_12 ?_
  refine xe 1 [(12, .bool false)] ?_
  refine rt ?_
  refine ⟨rfl, ?_⟩
  obtain rfl := Option.some.inj ho13840
  obtain rfl := Option.some.inj hm
  refine ⟨_, _, _, ResL.tmp rfl (ResL.nil), hS13911, ?_⟩
  exact rfl
  refine e_setb (t := 90) rfl (Bool.eq_false_iff.2 hp13910) ?_
  refine e_val rfl rfl (o_cmp (w := false) rfl rfl (by kernel_rfl)) ?_
  refine ye 1 [(92, .bool false), (0, V x13732), (3, V a3), (4, V a4), (5, V a5), (13, Pt b13733 0)] ?_
  have hS13912 := hS13905.unres
  refine kF 92 rfl ?_
  obtain rfl := Option.some.inj ho13840
  exact ⟨_, x13734, b13733, v13736, rfl, (q13735.mono hZ13857), rfl, hS13912⟩
  refine e_setb (t := 80) rfl (Bool.eq_false_iff.2 hp13885) ?_
  refine e_val rfl trivial (o_cmp (w := true) rfl rfl (by kernel_rfl)) ?_
  refine ye 11 [(92, .bool true), (0, V x13732), (3, V a3), (4, V a4), (5, V a5), (13, Pt b13733 0)] ?_
  have hS13913 := hS13883.unres
  refine cT 92 rfl ?_
  refine sr r6_12 ?_
  refine xe 1 [(12, .bool false)] ?_
  refine rt ?_
  refine ⟨rfl, ?_⟩
  obtain rfl := Option.some.inj ho13840
  obtain rfl := Option.some.inj hm
  refine ⟨_, _, _, ResL.tmp rfl (ResL.nil), hS13913, ?_⟩
  exact rfl
  refine e_setb (t := 77) rfl (Bool.eq_false_iff.2 hp13884) ?_
  rcases ifs ho13840 with ⟨hp13914, ho13840⟩ | ⟨hp13914, ho13840⟩
  refine e_setb (t := 80) rfl hp13914 ?_
  refine e_val rfl trivial (o_cmp (w := true) rfl rfl (by kernel_rfl)) ?_
  refine ye 11 [(92, .bool true), (0, V x13732), (3, V a3), (4, V a4), (5, V a5), (13, Pt b13733 0)] ?_
  have hS13915 := hS13883.unres
  refine cT 92 rfl ?_
  refine sr r6_12 ?_
  refine xe 1 [(12, .bool false)] ?_
  refine rt ?_
  refine ⟨rfl, ?_⟩
  obtain rfl := Option.some.inj ho13840
  obtain rfl := Option.some.inj hm
  refine ⟨_, _, _, ResL.tmp rfl (ResL.nil), hS13915, ?_⟩
  exact rfl
  refine e_setb (t := 80) rfl (Bool.eq_false_iff.2 hp13914) ?_
  refine e_val rfl trivial (o_cmp (w := false) rfl rfl (by kernel_rfl)) ?_
  refine yq 2 [(83, v6648), (82, .bool false), (0, V x13732), (2, v6648), (3, V a3), (4, V a4), (5, V a5), (13, Pt b13733 0)] ?_
  refine e_val rfl rfl (o_build (v := .agg #[v6648]) rfl (CA.cons (cs := [v6648]) (RS.cell1 (q6647.mono (hS13738.zle.trans hZ13857))) (CA.nil0)) (by kernel_rfl)) ?_
  refine yq 1 [(85, V x13732), (84, .agg #[v6648]), (82, .bool false), (0, V x13732), (2, v6648), (3, V a3), (4, V a4), (5, V a5), (13, Pt b13733 0)] ?_
  obtain ⟨r13916, hx13917, ho13840⟩ := obind ho13840
  have hSl13923 := hS13883.lown
  obtain ⟨v13918, h13919, hcl13920, hSc13921, rfl⟩ := arena_Check_ok F hSl13923.inv (q6647.mono (hS13738.zle.trans hZ13857)) hx13917
  have hS13922 := St.call (A := []) (B := [.blk b13733 [v13736]]) hSl13923 hSc13921
  replace hS13922 : St _ _ _ _ _ _ [.blk b13733 [v13736]] := hS13922
  refine e_still rfl rfl hS13883 (o_call hcl13920 rfl rfl rfl) hS13922 (St.lowk hSc13921) ?_
  intro h13924 hS13925
  refine yq 1 [(87, v6648), (86, .bool r13916), (82, .bool false), (0, V x13732), (3, V a3), (4, V a4), (5, V a5), (13, Pt b13733 0)] ?_
  refine e_val rfl rfl (o_build (v := .agg #[v6648]) rfl (CA.cons (cs := [v6648]) (RS.cell1 (q6647.mono (hS13738.zle.trans hZ13857))) (CA.nil0)) (by kernel_rfl)) ?_
  refine yq 1 [(89, V x13732), (88, .agg #[v6648]), (86, .bool r13916), (82, .bool false), (0, V x13732), (3, V a3), (4, V a4), (5, V a5), (13, Pt b13733 0)] ?_
  obtain ⟨r13926, hx13927, ho13840⟩ := obind ho13840
  have hSl13933 := hS13925.lown
  obtain ⟨v13928, h13929, hcl13930, hSc13931, rfl⟩ := correctorref10_Check_ok F hSl13933.inv (q6647.mono (hS13738.zle.trans hZ13857)) hx13927
  have hS13932 := St.call (A := []) (B := [.blk b13733 [v13736]]) hSl13933 hSc13931
  replace hS13932 : St _ _ _ _ _ _ [.blk b13733 [v13736]] := hS13932
  refine e_still rfl rfl hS13925 (o_call hcl13930 rfl rfl rfl) hS13932 (St.lowk hSc13931) ?_
  intro h13934 hS13935
  rcases ifs ho13840 with ⟨hp13936, ho13840⟩ | ⟨hp13936, ho13840⟩
  refine e_setb (t := 86) rfl hp13936 ?_
  rcases ifs ho13840 with ⟨hp13937, ho13840⟩ | ⟨hp13937, ho13840⟩
  refine e_setb (t := 90) rfl hp13937 ?_
  refine e_val rfl rfl (o_cmp (w := false) rfl rfl (by kernel_rfl)) ?_
  refine ye 1 [(92, .bool false), (0, V x13732), (3, V a3), (4, V a4), (5, V a5), (13, Pt b13733 0)] ?_
  have hS13938 := hS13935.unres
  refine kF 92 rfl ?_
  obtain rfl := Option.some.inj ho13840
  exact ⟨_, x13734, b13733, v13736, rfl, (q13735.mono hZ13857), rfl, hS13938⟩
  refine e_setb (t := 90) rfl (Bool.eq_false_iff.2 hp13937) ?_
  refine e_val rfl rfl (o_cmp (w := true) rfl rfl (by kernel_rfl)) ?_
  refine ye 1 [(92, .bool true), (0, V x13732), (3, V a3), (4, V a4), (5, V a5), (13, Pt b13733 0)] ?_
  have hS13939 := hS13935.unres
  refine cT 92 rfl ?_
  refine sr r6_12 ?_
  refine xe 1 [(12, .bool false)] ?_
  refine rt ?_
  refine ⟨rfl, ?_⟩
  obtain rfl := Option.some.inj ho13840
  obtain rfl := Option.some.inj hm
  refine ⟨_, _, _, ResL.tmp rfl (ResL.nil), hS13939, ?_⟩
  exact rfl
  refine e_setb (t := 86) rfl (Bool.eq_false_iff.2 hp13936) ?_
  rcases ifs ho13840 with ⟨hp13940, ho13840⟩ | ⟨hp13940, ho13840⟩
  refine e_setb (t := 90) rfl hp13940 ?_
  refine e_val rfl rfl (o_cmp (w := true) rfl rfl (by kernel_rfl)) ?_
  refine ye 1 [(92, .bool true), (0, V x13732), (3, V a3), (4, V a4), (5, V a5), (13, Pt b13733 0)] ?_
  have hS13941 := hS13935.unres
  refine cT 92 rfl ?_
  refine sr r6_12 ?_
  refine xe 1 [(12, .bool false)] ?_
  refine rt ?_
  refine ⟨rfl, ?_⟩
  obtain rfl := Option.some.inj ho13840
  obtain rfl := Option.some.inj hm
  refine ⟨_, _, _, ResL.tmp rfl (ResL.nil), hS13941, ?_⟩
  exact rfl
  refine e_setb (t := 90) rfl (Bool.eq_false_iff.2 hp13940) ?_
  refine e_val rfl rfl (o_cmp (w := false) rfl rfl (by kernel_rfl)) ?_
  refine ye 1 [(92, .bool false), (0, V x13732), (3, V a3), (4, V a4), (5, V a5), (13, Pt b13733 0)] ?_
  have hS13942 := hS13935.unres
  refine kF 92 rfl ?_
  obtain rfl := Option.some.inj ho13840
  exact ⟨_, x13734, b13733, v13736, rfl, (q13735.mono hZ13857), rfl, hS13942⟩
  refine bk 0 ?_
  obtain ⟨Z13612, hZ13613, q13614, hS13615⟩ := (hS13163.front 1 rfl).freeze q13156
  replace hS13615 : St _ _ _ _ _ _ [.blk b13159 [v13157]] := hS13615
  refine lp [0, 1, 2, 3, 4, 5, 13, 14] (fun n l h => ∃ Z13616 : Zn, ∃ x13617 : Int, ∃ x13619 : List api_Node, ∃ x13622 : Int, ∃ b13618 : Nat, ∃ v13621 : Value, correctorlaw10_ArenaChecks_l0 F a0 a1 a2 a3 a4 a5 n x13617 x13619 x13622 = some o13611 ∧ RS (α := api_Node) Z13616 v13621 x13619 ∧ l = [(0, V x13617), (1, v6646), (2, v6648), (3, V a3), (4, V a4), (5, V a5), (13, Pt b13618 0), (14, V x13622)] ∧ St hs [] Z (0, 0) Z13616 h [.blk b13618 [v13621]]) F ⟨_, r13138, r13145.Nodes, 0, b13159, v13157, ho13610, q13614, rfl, hS13615⟩ ?_
  rintro n13625 l h13623 ⟨Z13616, x13617, x13619, x13622, b13618, v13621, ho13610, q13620, rfl, hS13624⟩
  rcases n13625 with _ | n13625
  cases (show none = some o13611 from ho13610)
  rw [correctorlaw10_ArenaChecks_l0] at ho13610
  refine sq ?_
  refine sr r6_8 ?_
  refine xq 2 [(28, v6646), (27, V x13622), (0, V x13617), (1, v6646), (2, v6648), (3, V a3), (4, V a4), (5, V a5), (13, Pt b13618 0), (14, V x13622)] ?_
  refine r_step rfl trivial (o_len rfl (RS.len (q6645.mono hS13624.zle)) ⟨_, Go.Proofs.Try.underlying22⟩) ?_
  rcases ifs ho13610 with ⟨hp13630, ho13610⟩ | ⟨hp13630, ho13610⟩
  refine r_step rfl trivial (o_cmp rfl rfl (c_lss_T hp13630)) ?_
  refine xq 2 [(32, V x13622), (31, .bool true), (0, V x13617), (1, v6646), (2, v6648), (3, V a3), (4, V a4), (5, V a5), (13, Pt b13618 0), (14, V x13622)] ?_
  rcases ifs ho13610 with ⟨hp13631, ho13610⟩ | ⟨hp13631, ho13610⟩
  refine r_step rfl rfl (o_cmp rfl rfl (c_lss_T hp13631)) ?_
  refine xe 1 [(34, .bool true), (0, V x13617), (1, v6646), (2, v6648), (3, V a3), (4, V a4), (5, V a5), (13, Pt b13618 0), (14, V x13622)] ?_
  refine kT 34 rfl ?_
  refine sq ?_
  refine bk 1 ?_
  refine rgF r6_10 hS13624 ?_
  intro bs13632 h13633 hlv13635 hS13634
  have lt13636 : b13618 < bs13632 := hlv13635.1 _ (List.mem_of_getElem? (i := 0) rfl) _ (by simp [Itm.ids])
  refine e_lookB rfl trivial rfl (by show b13618 < _; omega) (same_agg (cs := [v13621]) (.cons (RS.sim1 q13620) .nil)) (o_ldb (v := .agg #[v13621]) hS13634 (i := 0) rfl rfl (by kernel_rfl)) trivial ?_
  refine yq 2 [(40, V x13622), (39, v6646), (38, .agg #[v13621]), (0, V x13617), (1, v6646), (2, v6648), (3, V a3), (4, V a4), (5, V a5), (13, Pt b13618 0), (14, V x13622)] ?_
  obtain ⟨hc13637, ho13610⟩ := chk ho13610
  refine e_val rfl trivial (o_index rfl rfl (by kernel_rfl : slTy _ _ = some (csz correctorlaw10_Act)) (RS.based (q6645.mono hS13624.zle) (by omega)) hc13637.1 hc13637.2) ?_
  refine yq 1 [(42, .pointer (some (elemA v6646 x13622 (csz correctorlaw10_Act) 1))), (38, .agg #[v13621]), (0, V x13617), (1, v6646), (2, v6648), (3, V a3), (4, V a4), (5, V a5), (13, Pt b13618 0), (14, V x13622)] ?_
  obtain ⟨x13638, hx13639, ho13610⟩ := obind ho13610
  obtain ⟨cs13640, hc13641, he13642⟩ := RS.elz (q6645.mono hS13624.zle) (i := x13622) hx13639
  obtain rfl := rc_correctorlaw10_Act hc13641
  refine e_lookZ rfl rfl trivial (fun h2 hz => o_lde (w := V x13638.A) (he13642 h2 hz) rfl (by kernel_rfl)) (hS13634.zin0 (Zle.refl _)) (same1 (v := V x13638.A) trivial) trivial ?_
  refine yq 1 [(44, Pt b13618 0), (43, V x13638.A), (38, .agg #[v13621]), (0, V x13617), (1, v6646), (2, v6648), (3, V a3), (4, V a4), (5, V a5), (13, Pt b13618 0), (14, V x13622)] ?_
  have lt13644 : b13618 < bs13632 := hlv13635.1 _ (List.mem_of_getElem? (i := 0) rfl) _ (by simp [Itm.ids])
  refine e_lookB rfl trivial rfl (by show b13618 < _; omega) (same1 (v := v13621) (RS.sim1 q13620)) (o_ldb (v := v13621) hS13634 (i := 0) rfl rfl (by kernel_rfl)) trivial ?_
  refine e_val rfl trivial (o_len rfl (RS.len q13620) ⟨_, Go.Proofs.Try.underlying25⟩) ?_
  obtain ⟨r13645, hx13646, ho13610⟩ := obind ho13610
  have hSl13652 := hS13634.lown
  obtain ⟨v13647, h13648, hcl13649, hSc13650, rfl⟩ := correctorlaw10_within_ok F hSl13652.inv  hx13646
  have hS13651 := St.call (A := []) (B := [.blk b13618 [v13621]]) hSl13652 hSc13650
  replace hS13651 : St _ _ _ _ _ _ [.blk b13618 [v13621]] := hS13651
  refine e_still rfl trivial hS13634 (o_call hcl13649 rfl rfl rfl) hS13651 (St.lowk hSc13650) ?_
  intro h13653 hS13654
  refine yq 2 [(49, V x13622), (48, v6646), (47, V r13645), (38, .agg #[v13621]), (0, V x13617), (1, v6646), (2, v6648), (3, V a3), (4, V a4), (5, V a5), (13, Pt b13618 0), (14, V x13622)] ?_
  obtain ⟨hc13655, ho13610⟩ := chk ho13610
  refine e_val rfl trivial (o_index rfl rfl (by kernel_rfl : slTy _ _ = some (csz correctorlaw10_Act)) (RS.based (q6645.mono hS13624.zle) (by omega)) hc13655.1 hc13655.2) ?_
  refine yq 1 [(51, .pointer (some (elemA v6646 x13622 (csz correctorlaw10_Act) 3))), (47, V r13645), (38, .agg #[v13621]), (0, V x13617), (1, v6646), (2, v6648), (3, V a3), (4, V a4), (5, V a5), (13, Pt b13618 0), (14, V x13622)] ?_
  obtain ⟨x13656, hx13657, ho13610⟩ := obind ho13610
  obtain ⟨cs13658, hc13659, he13660⟩ := RS.elz (q6645.mono hS13624.zle) (i := x13622) hx13657
  obtain rfl := rc_correctorlaw10_Act hc13659
  refine e_lookZ rfl rfl trivial (fun h2 hz => o_lde (w := V x13656.C) (he13660 h2 hz) rfl (by kernel_rfl)) (hS13654.zin0 (Zle.refl _)) (same1 (v := V x13656.C) trivial) trivial ?_
  refine yq 2 [(54, V (w64 (x13617 + 1))), (52, V x13656.C), (47, V r13645), (38, .agg #[v13621]), (0, V x13617), (1, v6646), (2, v6648), (3, V a3), (4, V a4), (5, V a5), (13, Pt b13618 0), (14, V x13622)] ?_
  obtain ⟨r13662, hx13663, ho13610⟩ := obind ho13610
  have hSl13669 := hS13654.lown
  obtain ⟨v13664, h13665, hcl13666, hSc13667, rfl⟩ := correctorlaw10_within_ok F hSl13669.inv  hx13663
  have hS13668 := St.call (A := []) (B := [.blk b13618 [v13621]]) hSl13669 hSc13667
  replace hS13668 : St _ _ _ _ _ _ [.blk b13618 [v13621]] := hS13668
  refine e_still rfl trivial hS13654 (o_call hcl13666 rfl rfl rfl) hS13668 (St.lowk hSc13667) ?_
  intro h13670 hS13671
  refine yq 2 [(57, V x13622), (56, v6646), (55, V r13662), (47, V r13645), (38, .agg #[v13621]), (0, V x13617), (1, v6646), (2, v6648), (3, V a3), (4, V a4), (5, V a5), (13, Pt b13618 0), (14, V x13622)] ?_
  obtain ⟨hc13672, ho13610⟩ := chk ho13610
  refine e_val rfl trivial (o_index rfl rfl (by kernel_rfl : slTy _ _ = some (csz correctorlaw10_Act)) (RS.based (q6645.mono hS13624.zle) (by omega)) hc13672.1 hc13672.2) ?_
  refine yq 1 [(59, .pointer (some (elemA v6646 x13622 (csz correctorlaw10_Act) 3))), (55, V r13662), (47, V r13645), (38, .agg #[v13621]), (0, V x13617), (1, v6646), (2, v6648), (3, V a3), (4, V a4), (5, V a5), (13, Pt b13618 0), (14, V x13622)] ?_
  obtain ⟨x13673, hx13674, ho13610⟩ := obind ho13610
  obtain ⟨cs13675, hc13676, he13677⟩ := RS.elz (q6645.mono hS13624.zle) (i := x13622) hx13674
  obtain rfl := rc_correctorlaw10_Act hc13676
  refine e_lookZ rfl rfl trivial (fun h2 hz => o_lde (w := V x13673.C) (he13677 h2 hz) rfl (by kernel_rfl)) (hS13671.zin0 (Zle.refl _)) (same1 (v := V x13673.C) trivial) trivial ?_
  refine yq 2 [(62, V (w64 (x13617 + 1))), (60, V x13673.C), (55, V r13662), (47, V r13645), (38, .agg #[v13621]), (0, V x13617), (1, v6646), (2, v6648), (3, V a3), (4, V a4), (5, V a5), (13, Pt b13618 0), (14, V x13622)] ?_
  obtain ⟨r13679, hx13680, ho13610⟩ := obind ho13610
  have hSl13686 := hS13671.lown
  obtain ⟨v13681, h13682, hcl13683, hSc13684, rfl⟩ := correctorlaw10_within_ok F hSl13686.inv  hx13680
  have hS13685 := St.call (A := []) (B := [.blk b13618 [v13621]]) hSl13686 hSc13684
  replace hS13685 : St _ _ _ _ _ _ [.blk b13618 [v13621]] := hS13685
  refine e_still rfl trivial hS13671 (o_call hcl13683 rfl rfl rfl) hS13685 (St.lowk hSc13684) ?_
  intro h13687 hS13688
  refine yq 2 [(65, V x13622), (64, v6646), (63, V r13679), (55, V r13662), (47, V r13645), (38, .agg #[v13621]), (0, V x13617), (1, v6646), (2, v6648), (3, V a3), (4, V a4), (5, V a5), (13, Pt b13618 0), (14, V x13622)] ?_
  obtain ⟨hc13689, ho13610⟩ := chk ho13610
  refine e_val rfl trivial (o_index rfl rfl (by kernel_rfl : slTy _ _ = some (csz correctorlaw10_Act)) (RS.based (q6645.mono hS13624.zle) (by omega)) hc13689.1 hc13689.2) ?_
  refine yq 1 [(67, .pointer (some (elemA v6646 x13622 (csz correctorlaw10_Act) 4))), (63, V r13679), (55, V r13662), (47, V r13645), (38, .agg #[v13621]), (0, V x13617), (1, v6646), (2, v6648), (3, V a3), (4, V a4), (5, V a5), (13, Pt b13618 0), (14, V x13622)] ?_
  obtain ⟨x13690, hx13691, ho13610⟩ := obind ho13610
  obtain ⟨cs13692, hc13693, he13694⟩ := RS.elz (q6645.mono hS13624.zle) (i := x13622) hx13691
  obtain rfl := rc_correctorlaw10_Act hc13693
  refine e_lookZ rfl rfl trivial (fun h2 hz => o_lde (w := V x13690.D) (he13694 h2 hz) rfl (by kernel_rfl)) (hS13688.zin0 (Zle.refl _)) (same1 (v := V x13690.D) trivial) trivial ?_
  obtain ⟨r13696, hx13697, ho13610⟩ := obind ho13610
  have hSl13703 := hS13688.lown
  obtain ⟨v13698, h13699, hcl13700, hSc13701, rfl⟩ := correctorlaw10_within_ok F hSl13703.inv  hx13697
  have hS13702 := St.call (A := []) (B := [.blk b13618 [v13621]]) hSl13703 hSc13701
  replace hS13702 : St _ _ _ _ _ _ [.blk b13618 [v13621]] := hS13702
  refine e_still rfl trivial hS13688 (o_call hcl13700 rfl rfl rfl) hS13702 (St.lowk hSc13701) ?_
  intro h13704 hS13705
  refine yq 1 [(70, V (w64 (r13679 + r13696))), (55, V r13662), (47, V r13645), (38, .agg #[v13621]), (0, V x13617), (1, v6646), (2, v6648), (3, V a3), (4, V a4), (5, V a5), (13, Pt b13618 0), (14, V x13622)] ?_
  obtain ⟨r13706, hx13707, ho13610⟩ := obind ho13610
  have hSl13713 := hS13705.lown
  have hSr13714 : St _ _ _ _ _ _ ([] ++ [.blk b13618 [v13621]]) := hSl13713
  obtain ⟨v13708, h13709, Z13715, A13717, hcl13710, hSc13711, v13719, rfl, rfl, q13718⟩ := correctorref10_Add_ok F hSr13714.preL q13620 hx13707
  have hS13712 := hSr13714.call hSc13711
  have hZ13716 := hSc13711.zle
  replace hS13712 : St _ _ _ _ _ _ [.blk b13618 [v13621]] := hS13712
  refine e_still rfl trivial hS13705 (o_call hcl13710 rfl rfl rfl) hS13712 (St.lowk hSc13711) ?_
  intro h13720 hS13721
  refine yq 3 [(72, .agg #[v13719]), (0, V x13617), (1, v6646), (2, v6648), (3, V a3), (4, V a4), (5, V a5), (13, Pt b13618 0), (14, V x13622)] ?_
  have hF13724 : St _ _ _ _ _ _ ([.blk b13618 [v13621]] ++ []) := (hS13721.front 0 rfl)
  refine e_mk1 rfl trivial hF13724 (o_stb (vs := [v13719]) (cells' := [v13719]) (L' := [.blk b13618 [v13719]]) hF13724.sub (i := 0) rfl rfl rfl rfl (by kernel_rfl) (one_cons (RS.one1 q13718) one_nil) rfl rfl rfl) hZ13716 (.keep trivial (.keep trivial (.keep trivial (.drop (by decide) (.keep trivial (.drop (by decide) .nil)))))) ?_
  intro h13722 hS13723
  refine yf [(0, V x13617), (1, v6646), (2, v6648), (3, V a3), (4, V a4), (5, V a5), (13, Pt b13618 0), (14, V x13622)] ?_
  have hS13725 := hS13723.unres
  refine rg r6_9 ?_
  refine xe 3 [(14, V (w64 (x13622 + 1))), (0, V x13617), (1, v6646), (2, v6648), (3, V a3), (4, V a4), (5, V a5), (13, Pt b13618 0)] ?_
  exact ⟨n13625, Nat.lt_succ_self _, ⟨_, x13617, r13706.1.Nodes, w64 (x13622 + 1), b13618, v13719, ho13610, q13718, rfl, hS13725⟩⟩
  refine r_step rfl rfl (o_cmp rfl rfl (c_lss_F hp13631)) ?_
  refine xe 1 [(34, .bool false), (0, V x13617), (1, v6646), (2, v6648), (3, V a3), (4, V a4), (5, V a5), (13, Pt b13618 0), (14, V x13622)] ?_
  refine cF 34 rfl ?_
  refine xt 0 ?_
  refine blkX_hit ?_
  obtain rfl := Option.some.inj ho13610
  exact ⟨_, x13617, x13619, b13618, v13621, rfl, q13620, rfl, hS13624⟩
  refine r_step rfl trivial (o_cmp rfl rfl (c_lss_F hp13630)) ?_
  refine xe 4 [(34, .bool false), (0, V x13617), (1, v6646), (2, v6648), (3, V a3), (4, V a4), (5, V a5), (13, Pt b13618 0), (14, V x13622)] ?_
  refine cF 34 rfl ?_
  refine xt 0 ?_
  refine blkX_hit ?_
  obtain rfl := Option.some.inj ho13610
  exact ⟨_, x13617, x13619, b13618, v13621, rfl, q13620, rfl, hS13624⟩
  refine r_setb (t := 21) rfl (Bool.eq_false_iff.2 hp13137) ?_
  refine xe 1 [(22, .bool true), (0, V a0), (1, v6646), (2, v6648), (3, V a3), (4, V a4), (5, V a5)] ?_
  refine cT 22 rfl ?_
  refine sr r6_4 ?_
  refine xe 1 [(12, .bool true)] ?_
  refine rt ?_
  refine ⟨rfl, ?_⟩
  obtain rfl := Option.some.inj hm
  refine ⟨_, _, _, ResL.tmp rfl (ResL.nil), hS13136, ?_⟩
  exact rfl
  refine r_setb (t := 18) rfl (Bool.eq_false_iff.2 hp13113) ?_
  refine xe 1 [(19, .bool true), (0, V a0), (1, v6646), (2, v6648), (3, V a3), (4, V a4), (5, V a5)] ?_
  refine cT 19 rfl ?_
  refine sr r6_2 ?_
  refine xe 1 [(12, .bool false)] ?_
  refine rt ?_
  refine ⟨rfl, ?_⟩
  obtain rfl := Option.some.inj hm
  refine ⟨_, _, _, ResL.tmp rfl (ResL.nil), hS13112, ?_⟩
  exact rfl

end Go.Proofs.Ytpijjenaadkjdaa.M
