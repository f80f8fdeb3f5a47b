/-
  No cell of these rows narrows 'for every input' (looked for: loops, veiled, ifaces, maps, wideKeys, modest, calm, conditions, laid).
  DERIVED. THE GIVEN ROWS OF THIS SEAT. 5 by the template 'for every input the law returns true; each argument reads behind the call as it read before'; 0 by the template 'total and deterministic' (their statements: YtahcngeimlkcgaaTotals.lean).
  GIVEN WITH THE SEED: the statements are not yours to turn. If you find one false, say at which input.
  Laid BY PROGRAM, IN A SANDBOX (cutbox-rows.mjs): the forced cells as the released guide's own fill.sh prints them over the translation d956acb8565a004a… (all of the seat's roots in one cut). By AI agents, Wed Nov 11 2026. No macro, syntax, notation, axiom, sorry.
-/
import Derived.Test.YtahcngeimlkcgaaChecked
import GoSem.Claim
import GoSem.ClaimJoined
import GoSem.ClaimMapViews
import Derived.JoinedTies
import Derived.KernelRfl
namespace Go.Proofs.Ytahcngeimlkcgaa
/- THE CELL 'sum', in the pinned program and in every row, IS THE sha256 OF THE DUMP (.gsa) THAT YtahcngeimlkcgaaProg.lean LOADS. Nothing in Lean hashes anything: it is a label: what it is worth is what the hold of that sum in a sandbox is worth. -/
noncomputable def Try.pinned : Pinned := { name := "ytahcngeimlkcgaa", sum := "d956acb8565a004a2e16bb5ddd3342ba72253f2f47a19d83672c3c656fc9edb2", checked := Try.checked }
namespace Rows
def none {H : Type} : Left H := { results := [], args := [] }

/-- 'correctorlaw11.FlowDeep': WHATEVER THE INPUT: true; the input reads as it did. -/
def flowDeepSpec : ChangeSpec := { name := "flowDeep", fn := fun _ => fun
  | [d1, d2] => { results := [.lit (.bool true)], args := [d1, d2] }
  | _ => none }
def flowDeepRow : OpenClaim := { program := "ytahcngeimlkcgaa", sum := "d956acb8565a004a2e16bb5ddd3342ba72253f2f47a19d83672c3c656fc9edb2", func := "corrector/correctorlaw11.FlowDeep", spec := "flowDeep", unfollowed := true, recurses := true, apart := false }
def FlowDeepSaid : Prop := flowDeepRow.holds Try.pinned (OpenSpec.ofChange flowDeepSpec)

/-- ITS FALSE NEIGHBOUR: 'it returns false'. Refute it at one input. -/
def flowDeepWrong : ChangeSpec := { name := "flowDeep", fn := fun _ => fun
  | [d1, d2] => { results := [.lit (.bool false)], args := [d1, d2] }
  | _ => none }
def FlowDeepWrongFalsely : Prop := flowDeepRow.holds Try.pinned (OpenSpec.ofChange flowDeepWrong)

/-- 'correctorlaw11.FlowCommas': WHATEVER THE INPUT: true; the input reads as it did. -/
def flowCommasSpec : ChangeSpec := { name := "flowCommas", fn := fun _ => fun
  | [d] => { results := [.lit (.bool true)], args := [d] }
  | _ => none }
def flowCommasRow : OpenClaim := { program := "ytahcngeimlkcgaa", sum := "d956acb8565a004a2e16bb5ddd3342ba72253f2f47a19d83672c3c656fc9edb2", func := "corrector/correctorlaw11.FlowCommas", spec := "flowCommas", unfollowed := true, recurses := true, apart := false }
def FlowCommasSaid : Prop := flowCommasRow.holds Try.pinned (OpenSpec.ofChange flowCommasSpec)

/-- ITS FALSE NEIGHBOUR: 'it returns false'. Refute it at one input. -/
def flowCommasWrong : ChangeSpec := { name := "flowCommas", fn := fun _ => fun
  | [d] => { results := [.lit (.bool false)], args := [d] }
  | _ => none }
def FlowCommasWrongFalsely : Prop := flowCommasRow.holds Try.pinned (OpenSpec.ofChange flowCommasWrong)

/-- 'correctorlaw11.FlowOpen': WHATEVER THE INPUT: true; the input reads as it did. -/
def flowOpenSpec : ChangeSpec := { name := "flowOpen", fn := fun _ => fun
  | [d1, d2] => { results := [.lit (.bool true)], args := [d1, d2] }
  | _ => none }
def flowOpenRow : OpenClaim := { program := "ytahcngeimlkcgaa", sum := "d956acb8565a004a2e16bb5ddd3342ba72253f2f47a19d83672c3c656fc9edb2", func := "corrector/correctorlaw11.FlowOpen", spec := "flowOpen", unfollowed := true, recurses := true, apart := false }
def FlowOpenSaid : Prop := flowOpenRow.holds Try.pinned (OpenSpec.ofChange flowOpenSpec)

/-- ITS FALSE NEIGHBOUR: 'it returns false'. Refute it at one input. -/
def flowOpenWrong : ChangeSpec := { name := "flowOpen", fn := fun _ => fun
  | [d1, d2] => { results := [.lit (.bool false)], args := [d1, d2] }
  | _ => none }
def FlowOpenWrongFalsely : Prop := flowOpenRow.holds Try.pinned (OpenSpec.ofChange flowOpenWrong)

/-- 'correctorlaw11.FlowPairs': WHATEVER THE INPUT: true; the input reads as it did. -/
def flowPairsSpec : ChangeSpec := { name := "flowPairs", fn := fun _ => fun
  | [d] => { results := [.lit (.bool true)], args := [d] }
  | _ => none }
def flowPairsRow : OpenClaim := { program := "ytahcngeimlkcgaa", sum := "d956acb8565a004a2e16bb5ddd3342ba72253f2f47a19d83672c3c656fc9edb2", func := "corrector/correctorlaw11.FlowPairs", spec := "flowPairs", unfollowed := true, recurses := true, apart := false }
def FlowPairsSaid : Prop := flowPairsRow.holds Try.pinned (OpenSpec.ofChange flowPairsSpec)

/-- ITS FALSE NEIGHBOUR: 'it returns false'. Refute it at one input. -/
def flowPairsWrong : ChangeSpec := { name := "flowPairs", fn := fun _ => fun
  | [d] => { results := [.lit (.bool false)], args := [d] }
  | _ => none }
def FlowPairsWrongFalsely : Prop := flowPairsRow.holds Try.pinned (OpenSpec.ofChange flowPairsWrong)

/-- 'correctorlaw11.FlowEnds': WHATEVER THE INPUT: true; the input reads as it did. -/
def flowEndsSpec : ChangeSpec := { name := "flowEnds", fn := fun _ => fun
  | [d1, d2, d3] => { results := [.lit (.bool true)], args := [d1, d2, d3] }
  | _ => none }
def flowEndsRow : OpenClaim := { program := "ytahcngeimlkcgaa", sum := "d956acb8565a004a2e16bb5ddd3342ba72253f2f47a19d83672c3c656fc9edb2", func := "corrector/correctorlaw11.FlowEnds", spec := "flowEnds", unfollowed := true, recurses := true, apart := false }
def FlowEndsSaid : Prop := flowEndsRow.holds Try.pinned (OpenSpec.ofChange flowEndsSpec)

/-- ITS FALSE NEIGHBOUR: 'it returns false'. Refute it at one input. -/
def flowEndsWrong : ChangeSpec := { name := "flowEnds", fn := fun _ => fun
  | [d1, d2, d3] => { results := [.lit (.bool false)], args := [d1, d2, d3] }
  | _ => none }
def FlowEndsWrongFalsely : Prop := flowEndsRow.holds Try.pinned (OpenSpec.ofChange flowEndsWrong)

/- THE SECOND FORM. 'bulk': how many values and letters a reading holds, each counted each time it is reached (what is shared counts as often as it is met; a slice's spare places count too). A statement '..UptoSaid' is the law's where the arguments, and the package variables that the reading takes, are together of bulk at most 1048576: NARROWER than '..Said'. Prove '..Said' where nothing that the law and all that it calls make is longer than what came in: it says more and counts as full. Else prove '..UptoSaid'. A law counts once. -/
mutual
def uptoBulk {H : Type} : DataW H → Nat
  | .lit (.string bytes) => bytes.length + 1
  | .lit _ => 1
  | .nil => 1
  | .ptr d => uptoBulk d + 1
  | .slice elems spare => uptoBulkAll elems + uptoBulkAll spare + 1
  | .agg parts => uptoBulkAll parts + 1
  | .iface _ d => uptoBulk d + 1
  | .map entries => uptoBulkEntries entries + 1
  | .held _ => 1
def uptoBulkAll {H : Type} : List (DataW H) → Nat
  | [] => 0
  | d :: r => uptoBulk d + uptoBulkAll r
def uptoBulkEntries {H : Type} : List (Lit × DataW H) → Nat
  | [] => 0
  | x :: r => uptoBulkEntry x + uptoBulkEntries r
def uptoBulkEntry {H : Type} : Lit × DataW H → Nat
  | (.string bytes, d) => bytes.length + uptoBulk d + 1
  | (_, d) => uptoBulk d + 1
 end
def uptoSmall : (H : Type) → List (DataW H) → Bool := fun _ ds => decide (uptoBulkAll ds ≤ 1048576)
def OpenSpec.upto (s : _root_.Go.ChangeSpec) : _root_.Go.OpenSpec := { _root_.Go.OpenSpec.ofChange s with cond := some uptoSmall }

/-- 'correctorlaw11.FlowDeep', WHERE WHAT IT READS IS OF BULK AT MOST 1048576: true; the input reads as it did. -/
def flowDeepUptoRow : OpenClaim := { program := "ytahcngeimlkcgaa", sum := "d956acb8565a004a2e16bb5ddd3342ba72253f2f47a19d83672c3c656fc9edb2", func := "corrector/correctorlaw11.FlowDeep", spec := "flowDeep", unfollowed := true, recurses := true, apart := false, narrowed := true }
def FlowDeepUptoSaid : Prop := flowDeepUptoRow.holds Try.pinned (OpenSpec.upto flowDeepSpec)

/-- 'correctorlaw11.FlowCommas', WHERE WHAT IT READS IS OF BULK AT MOST 1048576: true; the input reads as it did. -/
def flowCommasUptoRow : OpenClaim := { program := "ytahcngeimlkcgaa", sum := "d956acb8565a004a2e16bb5ddd3342ba72253f2f47a19d83672c3c656fc9edb2", func := "corrector/correctorlaw11.FlowCommas", spec := "flowCommas", unfollowed := true, recurses := true, apart := false, narrowed := true }
def FlowCommasUptoSaid : Prop := flowCommasUptoRow.holds Try.pinned (OpenSpec.upto flowCommasSpec)

/-- 'correctorlaw11.FlowOpen', WHERE WHAT IT READS IS OF BULK AT MOST 1048576: true; the input reads as it did. -/
def flowOpenUptoRow : OpenClaim := { program := "ytahcngeimlkcgaa", sum := "d956acb8565a004a2e16bb5ddd3342ba72253f2f47a19d83672c3c656fc9edb2", func := "corrector/correctorlaw11.FlowOpen", spec := "flowOpen", unfollowed := true, recurses := true, apart := false, narrowed := true }
def FlowOpenUptoSaid : Prop := flowOpenUptoRow.holds Try.pinned (OpenSpec.upto flowOpenSpec)

/-- 'correctorlaw11.FlowPairs', WHERE WHAT IT READS IS OF BULK AT MOST 1048576: true; the input reads as it did. -/
def flowPairsUptoRow : OpenClaim := { program := "ytahcngeimlkcgaa", sum := "d956acb8565a004a2e16bb5ddd3342ba72253f2f47a19d83672c3c656fc9edb2", func := "corrector/correctorlaw11.FlowPairs", spec := "flowPairs", unfollowed := true, recurses := true, apart := false, narrowed := true }
def FlowPairsUptoSaid : Prop := flowPairsUptoRow.holds Try.pinned (OpenSpec.upto flowPairsSpec)

/-- 'correctorlaw11.FlowEnds', WHERE WHAT IT READS IS OF BULK AT MOST 1048576: true; the input reads as it did. -/
def flowEndsUptoRow : OpenClaim := { program := "ytahcngeimlkcgaa", sum := "d956acb8565a004a2e16bb5ddd3342ba72253f2f47a19d83672c3c656fc9edb2", func := "corrector/correctorlaw11.FlowEnds", spec := "flowEnds", unfollowed := true, recurses := true, apart := false, narrowed := true }
def FlowEndsUptoSaid : Prop := flowEndsUptoRow.holds Try.pinned (OpenSpec.upto flowEndsSpec)

end Rows
end Go.Proofs.Ytahcngeimlkcgaa
