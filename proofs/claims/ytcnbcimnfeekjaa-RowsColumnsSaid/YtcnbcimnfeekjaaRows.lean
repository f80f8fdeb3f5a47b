/-
  No cell of these rows narrows 'for every input' (looked for: loops, veiled, ifaces, maps, wideKeys, modest, calm, conditions, laid).
  DERIVED. THE GIVEN ROWS OF THIS SEAT. 6 by the template 'for every input the law returns true; each argument reads behind the call as it read before'; 0 by the template 'total and deterministic' (their statements: YtcnbcimnfeekjaaTotals.lean).
  GIVEN WITH THE SEED: the statements are not yours to turn. If you find one false, say at which input.
  Laid BY PROGRAM, IN A SANDBOX (cutbox-rows.mjs): the forced cells as the released guide's own fill.sh prints them over the translation 8d6db7bf2a6be6e1… (all of the seat's roots in one cut). By AI agents, Wed Nov 11 2026. No macro, syntax, notation, axiom, sorry.
-/
import Derived.Test.YtcnbcimnfeekjaaChecked
import GoSem.Claim
import GoSem.ClaimJoined
import GoSem.ClaimMapViews
import Derived.JoinedTies
import Derived.KernelRfl
namespace Go.Proofs.Ytcnbcimnfeekjaa
/- THE CELL 'sum', in the pinned program and in every row, IS THE sha256 OF THE DUMP (.gsa) THAT YtcnbcimnfeekjaaProg.lean LOADS. Nothing in Lean hashes anything: it is a label: what it is worth is what the hold of that sum in a sandbox is worth. -/
noncomputable def Try.pinned : Pinned := { name := "ytcnbcimnfeekjaa", sum := "8d6db7bf2a6be6e1a375620918d2332250f759b9814115fc77145983f867478d", checked := Try.checked }
namespace Rows
def none {H : Type} : Left H := { results := [], args := [] }

/-- 'correctorlaw9.RowsAll': WHATEVER THE INPUT: true; the input reads as it did. -/
def rowsAllSpec : ChangeSpec := { name := "rowsAll", fn := fun _ => fun
  | [d1, d2] => { results := [.lit (.bool true)], args := [d1, d2] }
  | _ => none }
def rowsAllRow : OpenClaim := { program := "ytcnbcimnfeekjaa", sum := "8d6db7bf2a6be6e1a375620918d2332250f759b9814115fc77145983f867478d", func := "corrector/correctorlaw9.RowsAll", spec := "rowsAll", unfollowed := true, recurses := true, apart := false }
def RowsAllSaid : Prop := rowsAllRow.holds Try.pinned (OpenSpec.ofChange rowsAllSpec)

/-- ITS FALSE NEIGHBOUR: 'it returns false'. Refute it at one input. -/
def rowsAllWrong : ChangeSpec := { name := "rowsAll", fn := fun _ => fun
  | [d1, d2] => { results := [.lit (.bool false)], args := [d1, d2] }
  | _ => none }
def RowsAllWrongFalsely : Prop := rowsAllRow.holds Try.pinned (OpenSpec.ofChange rowsAllWrong)

/-- 'correctorlaw9.RowsEntries': WHATEVER THE INPUT: true; the input reads as it did. -/
def rowsEntriesSpec : ChangeSpec := { name := "rowsEntries", fn := fun _ => fun
  | [d1, d2] => { results := [.lit (.bool true)], args := [d1, d2] }
  | _ => none }
def rowsEntriesRow : OpenClaim := { program := "ytcnbcimnfeekjaa", sum := "8d6db7bf2a6be6e1a375620918d2332250f759b9814115fc77145983f867478d", func := "corrector/correctorlaw9.RowsEntries", spec := "rowsEntries", unfollowed := true, recurses := true, apart := false }
def RowsEntriesSaid : Prop := rowsEntriesRow.holds Try.pinned (OpenSpec.ofChange rowsEntriesSpec)

/-- ITS FALSE NEIGHBOUR: 'it returns false'. Refute it at one input. -/
def rowsEntriesWrong : ChangeSpec := { name := "rowsEntries", fn := fun _ => fun
  | [d1, d2] => { results := [.lit (.bool false)], args := [d1, d2] }
  | _ => none }
def RowsEntriesWrongFalsely : Prop := rowsEntriesRow.holds Try.pinned (OpenSpec.ofChange rowsEntriesWrong)

/-- 'correctorlaw9.RowsTile': WHATEVER THE INPUT: true; the input reads as it did. -/
def rowsTileSpec : ChangeSpec := { name := "rowsTile", fn := fun _ => fun
  | [d1, d2] => { results := [.lit (.bool true)], args := [d1, d2] }
  | _ => none }
def rowsTileRow : OpenClaim := { program := "ytcnbcimnfeekjaa", sum := "8d6db7bf2a6be6e1a375620918d2332250f759b9814115fc77145983f867478d", func := "corrector/correctorlaw9.RowsTile", spec := "rowsTile", unfollowed := true, recurses := true, apart := false }
def RowsTileSaid : Prop := rowsTileRow.holds Try.pinned (OpenSpec.ofChange rowsTileSpec)

/-- ITS FALSE NEIGHBOUR: 'it returns false'. Refute it at one input. -/
def rowsTileWrong : ChangeSpec := { name := "rowsTile", fn := fun _ => fun
  | [d1, d2] => { results := [.lit (.bool false)], args := [d1, d2] }
  | _ => none }
def RowsTileWrongFalsely : Prop := rowsTileRow.holds Try.pinned (OpenSpec.ofChange rowsTileWrong)

/-- 'correctorlaw9.RowsOrder': WHATEVER THE INPUT: true; the input reads as it did. -/
def rowsOrderSpec : ChangeSpec := { name := "rowsOrder", fn := fun _ => fun
  | [d1, d2] => { results := [.lit (.bool true)], args := [d1, d2] }
  | _ => none }
def rowsOrderRow : OpenClaim := { program := "ytcnbcimnfeekjaa", sum := "8d6db7bf2a6be6e1a375620918d2332250f759b9814115fc77145983f867478d", func := "corrector/correctorlaw9.RowsOrder", spec := "rowsOrder", unfollowed := true, recurses := true, apart := false }
def RowsOrderSaid : Prop := rowsOrderRow.holds Try.pinned (OpenSpec.ofChange rowsOrderSpec)

/-- ITS FALSE NEIGHBOUR: 'it returns false'. Refute it at one input. -/
def rowsOrderWrong : ChangeSpec := { name := "rowsOrder", fn := fun _ => fun
  | [d1, d2] => { results := [.lit (.bool false)], args := [d1, d2] }
  | _ => none }
def RowsOrderWrongFalsely : Prop := rowsOrderRow.holds Try.pinned (OpenSpec.ofChange rowsOrderWrong)

/-- 'correctorlaw9.RowsKinds': WHATEVER THE INPUT: true; the input reads as it did. -/
def rowsKindsSpec : ChangeSpec := { name := "rowsKinds", fn := fun _ => fun
  | [d] => { results := [.lit (.bool true)], args := [d] }
  | _ => none }
def rowsKindsRow : OpenClaim := { program := "ytcnbcimnfeekjaa", sum := "8d6db7bf2a6be6e1a375620918d2332250f759b9814115fc77145983f867478d", func := "corrector/correctorlaw9.RowsKinds", spec := "rowsKinds", unfollowed := true, recurses := true, apart := false }
def RowsKindsSaid : Prop := rowsKindsRow.holds Try.pinned (OpenSpec.ofChange rowsKindsSpec)

/-- ITS FALSE NEIGHBOUR: 'it returns false'. Refute it at one input. -/
def rowsKindsWrong : ChangeSpec := { name := "rowsKinds", fn := fun _ => fun
  | [d] => { results := [.lit (.bool false)], args := [d] }
  | _ => none }
def RowsKindsWrongFalsely : Prop := rowsKindsRow.holds Try.pinned (OpenSpec.ofChange rowsKindsWrong)

/-- 'correctorlaw9.RowsColumns': WHATEVER THE INPUT: true; the input reads as it did. -/
def rowsColumnsSpec : ChangeSpec := { name := "rowsColumns", fn := fun _ => fun
  | [d1, d2, d3] => { results := [.lit (.bool true)], args := [d1, d2, d3] }
  | _ => none }
def rowsColumnsRow : OpenClaim := { program := "ytcnbcimnfeekjaa", sum := "8d6db7bf2a6be6e1a375620918d2332250f759b9814115fc77145983f867478d", func := "corrector/correctorlaw9.RowsColumns", spec := "rowsColumns", unfollowed := true, recurses := true, apart := false }
def RowsColumnsSaid : Prop := rowsColumnsRow.holds Try.pinned (OpenSpec.ofChange rowsColumnsSpec)

/-- ITS FALSE NEIGHBOUR: 'it returns false'. Refute it at one input. -/
def rowsColumnsWrong : ChangeSpec := { name := "rowsColumns", fn := fun _ => fun
  | [d1, d2, d3] => { results := [.lit (.bool false)], args := [d1, d2, d3] }
  | _ => none }
def RowsColumnsWrongFalsely : Prop := rowsColumnsRow.holds Try.pinned (OpenSpec.ofChange rowsColumnsWrong)

/- THE SECOND FORM. 'bulk': how many values and letters a reading holds, each counted each time it is reached (what is shared counts as often as it is met; a slice's spare places count too). A statement '..UptoSaid' is the law's where the arguments, and the package variables that the reading takes, are together of bulk at most 1048576: NARROWER than '..Said'. Prove '..Said' where nothing that the law and all that it calls make is longer than what came in: it says more and counts as full. Else prove '..UptoSaid'. A law counts once. -/
mutual
def uptoBulk {H : Type} : DataW H → Nat
  | .lit (.string bytes) => bytes.length + 1
  | .lit _ => 1
  | .nil => 1
  | .ptr d => uptoBulk d + 1
  | .slice elems spare => uptoBulkAll elems + uptoBulkAll spare + 1
  | .agg parts => uptoBulkAll parts + 1
  | .iface _ d => uptoBulk d + 1
  | .map entries => uptoBulkEntries entries + 1
  | .held _ => 1
def uptoBulkAll {H : Type} : List (DataW H) → Nat
  | [] => 0
  | d :: r => uptoBulk d + uptoBulkAll r
def uptoBulkEntries {H : Type} : List (Lit × DataW H) → Nat
  | [] => 0
  | x :: r => uptoBulkEntry x + uptoBulkEntries r
def uptoBulkEntry {H : Type} : Lit × DataW H → Nat
  | (.string bytes, d) => bytes.length + uptoBulk d + 1
  | (_, d) => uptoBulk d + 1
 end
def uptoSmall : (H : Type) → List (DataW H) → Bool := fun _ ds => decide (uptoBulkAll ds ≤ 1048576)
def OpenSpec.upto (s : _root_.Go.ChangeSpec) : _root_.Go.OpenSpec := { _root_.Go.OpenSpec.ofChange s with cond := some uptoSmall }

/-- 'correctorlaw9.RowsAll', WHERE WHAT IT READS IS OF BULK AT MOST 1048576: true; the input reads as it did. -/
def rowsAllUptoRow : OpenClaim := { program := "ytcnbcimnfeekjaa", sum := "8d6db7bf2a6be6e1a375620918d2332250f759b9814115fc77145983f867478d", func := "corrector/correctorlaw9.RowsAll", spec := "rowsAll", unfollowed := true, recurses := true, apart := false, narrowed := true }
def RowsAllUptoSaid : Prop := rowsAllUptoRow.holds Try.pinned (OpenSpec.upto rowsAllSpec)

/-- 'correctorlaw9.RowsEntries', WHERE WHAT IT READS IS OF BULK AT MOST 1048576: true; the input reads as it did. -/
def rowsEntriesUptoRow : OpenClaim := { program := "ytcnbcimnfeekjaa", sum := "8d6db7bf2a6be6e1a375620918d2332250f759b9814115fc77145983f867478d", func := "corrector/correctorlaw9.RowsEntries", spec := "rowsEntries", unfollowed := true, recurses := true, apart := false, narrowed := true }
def RowsEntriesUptoSaid : Prop := rowsEntriesUptoRow.holds Try.pinned (OpenSpec.upto rowsEntriesSpec)

/-- 'correctorlaw9.RowsTile', WHERE WHAT IT READS IS OF BULK AT MOST 1048576: true; the input reads as it did. -/
def rowsTileUptoRow : OpenClaim := { program := "ytcnbcimnfeekjaa", sum := "8d6db7bf2a6be6e1a375620918d2332250f759b9814115fc77145983f867478d", func := "corrector/correctorlaw9.RowsTile", spec := "rowsTile", unfollowed := true, recurses := true, apart := false, narrowed := true }
def RowsTileUptoSaid : Prop := rowsTileUptoRow.holds Try.pinned (OpenSpec.upto rowsTileSpec)

/-- 'correctorlaw9.RowsOrder', WHERE WHAT IT READS IS OF BULK AT MOST 1048576: true; the input reads as it did. -/
def rowsOrderUptoRow : OpenClaim := { program := "ytcnbcimnfeekjaa", sum := "8d6db7bf2a6be6e1a375620918d2332250f759b9814115fc77145983f867478d", func := "corrector/correctorlaw9.RowsOrder", spec := "rowsOrder", unfollowed := true, recurses := true, apart := false, narrowed := true }
def RowsOrderUptoSaid : Prop := rowsOrderUptoRow.holds Try.pinned (OpenSpec.upto rowsOrderSpec)

/-- 'correctorlaw9.RowsKinds', WHERE WHAT IT READS IS OF BULK AT MOST 1048576: true; the input reads as it did. -/
def rowsKindsUptoRow : OpenClaim := { program := "ytcnbcimnfeekjaa", sum := "8d6db7bf2a6be6e1a375620918d2332250f759b9814115fc77145983f867478d", func := "corrector/correctorlaw9.RowsKinds", spec := "rowsKinds", unfollowed := true, recurses := true, apart := false, narrowed := true }
def RowsKindsUptoSaid : Prop := rowsKindsUptoRow.holds Try.pinned (OpenSpec.upto rowsKindsSpec)

/-- 'correctorlaw9.RowsColumns', WHERE WHAT IT READS IS OF BULK AT MOST 1048576: true; the input reads as it did. -/
def rowsColumnsUptoRow : OpenClaim := { program := "ytcnbcimnfeekjaa", sum := "8d6db7bf2a6be6e1a375620918d2332250f759b9814115fc77145983f867478d", func := "corrector/correctorlaw9.RowsColumns", spec := "rowsColumns", unfollowed := true, recurses := true, apart := false, narrowed := true }
def RowsColumnsUptoSaid : Prop := rowsColumnsUptoRow.holds Try.pinned (OpenSpec.upto rowsColumnsSpec)

end Rows
end Go.Proofs.Ytcnbcimnfeekjaa
