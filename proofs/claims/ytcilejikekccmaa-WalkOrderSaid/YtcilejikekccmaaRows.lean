/-
  No cell of these rows narrows 'for every input' (looked for: loops, veiled, ifaces, maps, wideKeys, modest, calm, conditions, laid).
  DERIVED. THE GIVEN ROWS OF THIS SEAT. 4 by the template 'for every input the law returns true; each argument reads behind the call as it read before'; 0 by the template 'total and deterministic' (their statements: YtcilejikekccmaaTotals.lean).
  GIVEN WITH THE SEED: the statements are not yours to turn. If you find one false, say at which input.
  Laid BY PROGRAM, IN A SANDBOX (cutbox-rows.mjs): the forced cells as the released guide's own fill.sh prints them over the translation 69c38c031f20045a… (all of the seat's roots in one cut). By AI agents, Wed Nov 11 2026. No macro, syntax, notation, axiom, sorry.
-/
import Derived.Test.YtcilejikekccmaaChecked
import GoSem.Claim
import GoSem.ClaimJoined
import GoSem.ClaimMapViews
import Derived.JoinedTies
import Derived.KernelRfl
namespace Go.Proofs.Ytcilejikekccmaa
/- THE CELL 'sum', in the pinned program and in every row, IS THE sha256 OF THE DUMP (.gsa) THAT YtcilejikekccmaaProg.lean LOADS. Nothing in Lean hashes anything: it is a label: what it is worth is what the hold of that sum in a sandbox is worth. -/
noncomputable def Try.pinned : Pinned := { name := "ytcilejikekccmaa", sum := "69c38c031f20045a420a489422602d0c3ce7996c8e8c5e69f9180cbe54eff3a5", checked := Try.checked }
namespace Rows
def none {H : Type} : Left H := { results := [], args := [] }

/-- 'correctorlaw13.WalkKinds': WHATEVER THE INPUT: true; the input reads as it did. -/
def walkKindsSpec : ChangeSpec := { name := "walkKinds", fn := fun _ => fun
  | [d] => { results := [.lit (.bool true)], args := [d] }
  | _ => none }
def walkKindsRow : OpenClaim := { program := "ytcilejikekccmaa", sum := "69c38c031f20045a420a489422602d0c3ce7996c8e8c5e69f9180cbe54eff3a5", func := "corrector/correctorlaw13.WalkKinds", spec := "walkKinds", unfollowed := true, recurses := true, apart := false }
def WalkKindsSaid : Prop := walkKindsRow.holds Try.pinned (OpenSpec.ofChange walkKindsSpec)

/-- ITS FALSE NEIGHBOUR: 'it returns false'. Refute it at one input. -/
def walkKindsWrong : ChangeSpec := { name := "walkKinds", fn := fun _ => fun
  | [d] => { results := [.lit (.bool false)], args := [d] }
  | _ => none }
def WalkKindsWrongFalsely : Prop := walkKindsRow.holds Try.pinned (OpenSpec.ofChange walkKindsWrong)

/-- 'correctorlaw13.WalkOrder': WHATEVER THE INPUT: true; the input reads as it did. -/
def walkOrderSpec : ChangeSpec := { name := "walkOrder", fn := fun _ => fun
  | [d1, d2] => { results := [.lit (.bool true)], args := [d1, d2] }
  | _ => none }
def walkOrderRow : OpenClaim := { program := "ytcilejikekccmaa", sum := "69c38c031f20045a420a489422602d0c3ce7996c8e8c5e69f9180cbe54eff3a5", func := "corrector/correctorlaw13.WalkOrder", spec := "walkOrder", unfollowed := true, recurses := true, apart := false }
def WalkOrderSaid : Prop := walkOrderRow.holds Try.pinned (OpenSpec.ofChange walkOrderSpec)

/-- ITS FALSE NEIGHBOUR: 'it returns false'. Refute it at one input. -/
def walkOrderWrong : ChangeSpec := { name := "walkOrder", fn := fun _ => fun
  | [d1, d2] => { results := [.lit (.bool false)], args := [d1, d2] }
  | _ => none }
def WalkOrderWrongFalsely : Prop := walkOrderRow.holds Try.pinned (OpenSpec.ofChange walkOrderWrong)

/-- 'correctorlaw13.WalkSpans': WHATEVER THE INPUT: true; the input reads as it did. -/
def walkSpansSpec : ChangeSpec := { name := "walkSpans", fn := fun _ => fun
  | [d1, d2] => { results := [.lit (.bool true)], args := [d1, d2] }
  | _ => none }
def walkSpansRow : OpenClaim := { program := "ytcilejikekccmaa", sum := "69c38c031f20045a420a489422602d0c3ce7996c8e8c5e69f9180cbe54eff3a5", func := "corrector/correctorlaw13.WalkSpans", spec := "walkSpans", unfollowed := true, recurses := true, apart := false }
def WalkSpansSaid : Prop := walkSpansRow.holds Try.pinned (OpenSpec.ofChange walkSpansSpec)

/-- ITS FALSE NEIGHBOUR: 'it returns false'. Refute it at one input. -/
def walkSpansWrong : ChangeSpec := { name := "walkSpans", fn := fun _ => fun
  | [d1, d2] => { results := [.lit (.bool false)], args := [d1, d2] }
  | _ => none }
def WalkSpansWrongFalsely : Prop := walkSpansRow.holds Try.pinned (OpenSpec.ofChange walkSpansWrong)

/-- 'correctorlaw13.WalkIn': WHATEVER THE INPUT: true; the input reads as it did. -/
def walkInSpec : ChangeSpec := { name := "walkIn", fn := fun _ => fun
  | [d1, d2, d3] => { results := [.lit (.bool true)], args := [d1, d2, d3] }
  | _ => none }
def walkInRow : OpenClaim := { program := "ytcilejikekccmaa", sum := "69c38c031f20045a420a489422602d0c3ce7996c8e8c5e69f9180cbe54eff3a5", func := "corrector/correctorlaw13.WalkIn", spec := "walkIn", unfollowed := true, recurses := true, apart := false }
def WalkInSaid : Prop := walkInRow.holds Try.pinned (OpenSpec.ofChange walkInSpec)

/-- ITS FALSE NEIGHBOUR: 'it returns false'. Refute it at one input. -/
def walkInWrong : ChangeSpec := { name := "walkIn", fn := fun _ => fun
  | [d1, d2, d3] => { results := [.lit (.bool false)], args := [d1, d2, d3] }
  | _ => none }
def WalkInWrongFalsely : Prop := walkInRow.holds Try.pinned (OpenSpec.ofChange walkInWrong)

/- THE SECOND FORM. 'bulk': how many values and letters a reading holds, each counted each time it is reached (what is shared counts as often as it is met; a slice's spare places count too). A statement '..UptoSaid' is the law's where the arguments, and the package variables that the reading takes, are together of bulk at most 1048576: NARROWER than '..Said'. Prove '..Said' where nothing that the law and all that it calls make is longer than what came in: it says more and counts as full. Else prove '..UptoSaid'. A law counts once. -/
mutual
def uptoBulk {H : Type} : DataW H → Nat
  | .lit (.string bytes) => bytes.length + 1
  | .lit _ => 1
  | .nil => 1
  | .ptr d => uptoBulk d + 1
  | .slice elems spare => uptoBulkAll elems + uptoBulkAll spare + 1
  | .agg parts => uptoBulkAll parts + 1
  | .iface _ d => uptoBulk d + 1
  | .map entries => uptoBulkEntries entries + 1
  | .held _ => 1
def uptoBulkAll {H : Type} : List (DataW H) → Nat
  | [] => 0
  | d :: r => uptoBulk d + uptoBulkAll r
def uptoBulkEntries {H : Type} : List (Lit × DataW H) → Nat
  | [] => 0
  | x :: r => uptoBulkEntry x + uptoBulkEntries r
def uptoBulkEntry {H : Type} : Lit × DataW H → Nat
  | (.string bytes, d) => bytes.length + uptoBulk d + 1
  | (_, d) => uptoBulk d + 1
 end
def uptoSmall : (H : Type) → List (DataW H) → Bool := fun _ ds => decide (uptoBulkAll ds ≤ 1048576)
def OpenSpec.upto (s : _root_.Go.ChangeSpec) : _root_.Go.OpenSpec := { _root_.Go.OpenSpec.ofChange s with cond := some uptoSmall }

/-- 'correctorlaw13.WalkKinds', WHERE WHAT IT READS IS OF BULK AT MOST 1048576: true; the input reads as it did. -/
def walkKindsUptoRow : OpenClaim := { program := "ytcilejikekccmaa", sum := "69c38c031f20045a420a489422602d0c3ce7996c8e8c5e69f9180cbe54eff3a5", func := "corrector/correctorlaw13.WalkKinds", spec := "walkKinds", unfollowed := true, recurses := true, apart := false, narrowed := true }
def WalkKindsUptoSaid : Prop := walkKindsUptoRow.holds Try.pinned (OpenSpec.upto walkKindsSpec)

/-- 'correctorlaw13.WalkOrder', WHERE WHAT IT READS IS OF BULK AT MOST 1048576: true; the input reads as it did. -/
def walkOrderUptoRow : OpenClaim := { program := "ytcilejikekccmaa", sum := "69c38c031f20045a420a489422602d0c3ce7996c8e8c5e69f9180cbe54eff3a5", func := "corrector/correctorlaw13.WalkOrder", spec := "walkOrder", unfollowed := true, recurses := true, apart := false, narrowed := true }
def WalkOrderUptoSaid : Prop := walkOrderUptoRow.holds Try.pinned (OpenSpec.upto walkOrderSpec)

/-- 'correctorlaw13.WalkSpans', WHERE WHAT IT READS IS OF BULK AT MOST 1048576: true; the input reads as it did. -/
def walkSpansUptoRow : OpenClaim := { program := "ytcilejikekccmaa", sum := "69c38c031f20045a420a489422602d0c3ce7996c8e8c5e69f9180cbe54eff3a5", func := "corrector/correctorlaw13.WalkSpans", spec := "walkSpans", unfollowed := true, recurses := true, apart := false, narrowed := true }
def WalkSpansUptoSaid : Prop := walkSpansUptoRow.holds Try.pinned (OpenSpec.upto walkSpansSpec)

/-- 'correctorlaw13.WalkIn', WHERE WHAT IT READS IS OF BULK AT MOST 1048576: true; the input reads as it did. -/
def walkInUptoRow : OpenClaim := { program := "ytcilejikekccmaa", sum := "69c38c031f20045a420a489422602d0c3ce7996c8e8c5e69f9180cbe54eff3a5", func := "corrector/correctorlaw13.WalkIn", spec := "walkIn", unfollowed := true, recurses := true, apart := false, narrowed := true }
def WalkInUptoSaid : Prop := walkInUptoRow.holds Try.pinned (OpenSpec.upto walkInSpec)

end Rows
end Go.Proofs.Ytcilejikekccmaa
