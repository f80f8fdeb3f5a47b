/-
  No cell of these rows narrows 'for every input' (looked for: loops, veiled, ifaces, maps, wideKeys, modest, calm, conditions, laid).
  DERIVED. THE GIVEN ROWS OF THIS SEAT. 5 by the template 'for every input the law returns true; each argument reads behind the call as it read before'; 0 by the template 'total and deterministic' (their statements: YtpijjenaadkjdaaTotals.lean).
  GIVEN WITH THE SEED: the statements are not yours to turn. If you find one false, say at which input.
  Laid BY PROGRAM, IN A SANDBOX (cutbox-rows.mjs): the forced cells as the released guide's own fill.sh prints them over the translation f6e151872bed5079… (all of the seat's roots in one cut). By AI agents, Wed Nov 11 2026. No macro, syntax, notation, axiom, sorry.
-/
import Derived.Test.YtpijjenaadkjdaaChecked
import GoSem.Claim
import GoSem.ClaimJoined
import GoSem.ClaimMapViews
import Derived.JoinedTies
import Derived.KernelRfl
namespace Go.Proofs.Ytpijjenaadkjdaa
/- THE CELL 'sum', in the pinned program and in every row, IS THE sha256 OF THE DUMP (.gsa) THAT YtpijjenaadkjdaaProg.lean LOADS. Nothing in Lean hashes anything: it is a label: what it is worth is what the hold of that sum in a sandbox is worth. -/
noncomputable def Try.pinned : Pinned := { name := "ytpijjenaadkjdaa", sum := "f6e151872bed5079ab7b5c19ad4ec109aa14f6113eaef7ce569e706cb7218577", checked := Try.checked }
namespace Rows
def none {H : Type} : Left H := { results := [], args := [] }

/-- 'correctorlaw10.ArenaPlays': WHATEVER THE INPUT: true; the input reads as it did. -/
def arenaPlaysSpec : ChangeSpec := { name := "arenaPlays", fn := fun _ => fun
  | [d1, d2] => { results := [.lit (.bool true)], args := [d1, d2] }
  | _ => none }
def arenaPlaysRow : OpenClaim := { program := "ytpijjenaadkjdaa", sum := "f6e151872bed5079ab7b5c19ad4ec109aa14f6113eaef7ce569e706cb7218577", func := "corrector/correctorlaw10.ArenaPlays", spec := "arenaPlays", apart := false }
def ArenaPlaysSaid : Prop := arenaPlaysRow.holds Try.pinned (OpenSpec.ofChange arenaPlaysSpec)

/-- ITS FALSE NEIGHBOUR: 'it returns false'. Refute it at one input. -/
def arenaPlaysWrong : ChangeSpec := { name := "arenaPlays", fn := fun _ => fun
  | [d1, d2] => { results := [.lit (.bool false)], args := [d1, d2] }
  | _ => none }
def ArenaPlaysWrongFalsely : Prop := arenaPlaysRow.holds Try.pinned (OpenSpec.ofChange arenaPlaysWrong)

/-- 'correctorlaw10.ArenaRefuses': WHATEVER THE INPUT: true; the input reads as it did. -/
def arenaRefusesSpec : ChangeSpec := { name := "arenaRefuses", fn := fun _ => fun
  | [d1, d2, d3] => { results := [.lit (.bool true)], args := [d1, d2, d3] }
  | _ => none }
def arenaRefusesRow : OpenClaim := { program := "ytpijjenaadkjdaa", sum := "f6e151872bed5079ab7b5c19ad4ec109aa14f6113eaef7ce569e706cb7218577", func := "corrector/correctorlaw10.ArenaRefuses", spec := "arenaRefuses", unfollowed := true, recurses := true, apart := false }
def ArenaRefusesSaid : Prop := arenaRefusesRow.holds Try.pinned (OpenSpec.ofChange arenaRefusesSpec)

/-- ITS FALSE NEIGHBOUR: 'it returns false'. Refute it at one input. -/
def arenaRefusesWrong : ChangeSpec := { name := "arenaRefuses", fn := fun _ => fun
  | [d1, d2, d3] => { results := [.lit (.bool false)], args := [d1, d2, d3] }
  | _ => none }
def ArenaRefusesWrongFalsely : Prop := arenaRefusesRow.holds Try.pinned (OpenSpec.ofChange arenaRefusesWrong)

/-- 'correctorlaw10.ArenaTwo': WHATEVER THE INPUT: true; the input reads as it did. -/
def arenaTwoSpec : ChangeSpec := { name := "arenaTwo", fn := fun _ => fun
  | [d1, d2] => { results := [.lit (.bool true)], args := [d1, d2] }
  | _ => none }
def arenaTwoRow : OpenClaim := { program := "ytpijjenaadkjdaa", sum := "f6e151872bed5079ab7b5c19ad4ec109aa14f6113eaef7ce569e706cb7218577", func := "corrector/correctorlaw10.ArenaTwo", spec := "arenaTwo", unfollowed := true, recurses := true, apart := false }
def ArenaTwoSaid : Prop := arenaTwoRow.holds Try.pinned (OpenSpec.ofChange arenaTwoSpec)

/-- ITS FALSE NEIGHBOUR: 'it returns false'. Refute it at one input. -/
def arenaTwoWrong : ChangeSpec := { name := "arenaTwo", fn := fun _ => fun
  | [d1, d2] => { results := [.lit (.bool false)], args := [d1, d2] }
  | _ => none }
def ArenaTwoWrongFalsely : Prop := arenaTwoRow.holds Try.pinned (OpenSpec.ofChange arenaTwoWrong)

/-- 'correctorlaw10.ArenaChecks': WHATEVER THE INPUT: true; the input reads as it did. -/
def arenaChecksSpec : ChangeSpec := { name := "arenaChecks", fn := fun _ => fun
  | [d1, d2, d3, d4, d5, d6] => { results := [.lit (.bool true)], args := [d1, d2, d3, d4, d5, d6] }
  | _ => none }
def arenaChecksRow : OpenClaim := { program := "ytpijjenaadkjdaa", sum := "f6e151872bed5079ab7b5c19ad4ec109aa14f6113eaef7ce569e706cb7218577", func := "corrector/correctorlaw10.ArenaChecks", spec := "arenaChecks", unfollowed := true, recurses := true, apart := false }
def ArenaChecksSaid : Prop := arenaChecksRow.holds Try.pinned (OpenSpec.ofChange arenaChecksSpec)

/-- ITS FALSE NEIGHBOUR: 'it returns false'. Refute it at one input. -/
def arenaChecksWrong : ChangeSpec := { name := "arenaChecks", fn := fun _ => fun
  | [d1, d2, d3, d4, d5, d6] => { results := [.lit (.bool false)], args := [d1, d2, d3, d4, d5, d6] }
  | _ => none }
def ArenaChecksWrongFalsely : Prop := arenaChecksRow.holds Try.pinned (OpenSpec.ofChange arenaChecksWrong)

/-- 'correctorlaw10.ArenaReaches': WHATEVER THE INPUT: true; the input reads as it did. -/
def arenaReachesSpec : ChangeSpec := { name := "arenaReaches", fn := fun _ => fun
  | [d1, d2, d3] => { results := [.lit (.bool true)], args := [d1, d2, d3] }
  | _ => none }
def arenaReachesRow : OpenClaim := { program := "ytpijjenaadkjdaa", sum := "f6e151872bed5079ab7b5c19ad4ec109aa14f6113eaef7ce569e706cb7218577", func := "corrector/correctorlaw10.ArenaReaches", spec := "arenaReaches", unfollowed := true, recurses := true, apart := false }
def ArenaReachesSaid : Prop := arenaReachesRow.holds Try.pinned (OpenSpec.ofChange arenaReachesSpec)

/-- ITS FALSE NEIGHBOUR: 'it returns false'. Refute it at one input. -/
def arenaReachesWrong : ChangeSpec := { name := "arenaReaches", fn := fun _ => fun
  | [d1, d2, d3] => { results := [.lit (.bool false)], args := [d1, d2, d3] }
  | _ => none }
def ArenaReachesWrongFalsely : Prop := arenaReachesRow.holds Try.pinned (OpenSpec.ofChange arenaReachesWrong)

/- THE SECOND FORM. 'bulk': how many values and letters a reading holds, each counted each time it is reached (what is shared counts as often as it is met; a slice's spare places count too). A statement '..UptoSaid' is the law's where the arguments, and the package variables that the reading takes, are together of bulk at most 1048576: NARROWER than '..Said'. Prove '..Said' where nothing that the law and all that it calls make is longer than what came in: it says more and counts as full. Else prove '..UptoSaid'. A law counts once. -/
mutual
def uptoBulk {H : Type} : DataW H → Nat
  | .lit (.string bytes) => bytes.length + 1
  | .lit _ => 1
  | .nil => 1
  | .ptr d => uptoBulk d + 1
  | .slice elems spare => uptoBulkAll elems + uptoBulkAll spare + 1
  | .agg parts => uptoBulkAll parts + 1
  | .iface _ d => uptoBulk d + 1
  | .map entries => uptoBulkEntries entries + 1
  | .held _ => 1
def uptoBulkAll {H : Type} : List (DataW H) → Nat
  | [] => 0
  | d :: r => uptoBulk d + uptoBulkAll r
def uptoBulkEntries {H : Type} : List (Lit × DataW H) → Nat
  | [] => 0
  | x :: r => uptoBulkEntry x + uptoBulkEntries r
def uptoBulkEntry {H : Type} : Lit × DataW H → Nat
  | (.string bytes, d) => bytes.length + uptoBulk d + 1
  | (_, d) => uptoBulk d + 1
 end
def uptoSmall : (H : Type) → List (DataW H) → Bool := fun _ ds => decide (uptoBulkAll ds ≤ 1048576)
def OpenSpec.upto (s : _root_.Go.ChangeSpec) : _root_.Go.OpenSpec := { _root_.Go.OpenSpec.ofChange s with cond := some uptoSmall }

/-- 'correctorlaw10.ArenaPlays', WHERE WHAT IT READS IS OF BULK AT MOST 1048576: true; the input reads as it did. -/
def arenaPlaysUptoRow : OpenClaim := { program := "ytpijjenaadkjdaa", sum := "f6e151872bed5079ab7b5c19ad4ec109aa14f6113eaef7ce569e706cb7218577", func := "corrector/correctorlaw10.ArenaPlays", spec := "arenaPlays", apart := false, narrowed := true }
def ArenaPlaysUptoSaid : Prop := arenaPlaysUptoRow.holds Try.pinned (OpenSpec.upto arenaPlaysSpec)

/-- 'correctorlaw10.ArenaRefuses', WHERE WHAT IT READS IS OF BULK AT MOST 1048576: true; the input reads as it did. -/
def arenaRefusesUptoRow : OpenClaim := { program := "ytpijjenaadkjdaa", sum := "f6e151872bed5079ab7b5c19ad4ec109aa14f6113eaef7ce569e706cb7218577", func := "corrector/correctorlaw10.ArenaRefuses", spec := "arenaRefuses", unfollowed := true, recurses := true, apart := false, narrowed := true }
def ArenaRefusesUptoSaid : Prop := arenaRefusesUptoRow.holds Try.pinned (OpenSpec.upto arenaRefusesSpec)

/-- 'correctorlaw10.ArenaTwo', WHERE WHAT IT READS IS OF BULK AT MOST 1048576: true; the input reads as it did. -/
def arenaTwoUptoRow : OpenClaim := { program := "ytpijjenaadkjdaa", sum := "f6e151872bed5079ab7b5c19ad4ec109aa14f6113eaef7ce569e706cb7218577", func := "corrector/correctorlaw10.ArenaTwo", spec := "arenaTwo", unfollowed := true, recurses := true, apart := false, narrowed := true }
def ArenaTwoUptoSaid : Prop := arenaTwoUptoRow.holds Try.pinned (OpenSpec.upto arenaTwoSpec)

/-- 'correctorlaw10.ArenaChecks', WHERE WHAT IT READS IS OF BULK AT MOST 1048576: true; the input reads as it did. -/
def arenaChecksUptoRow : OpenClaim := { program := "ytpijjenaadkjdaa", sum := "f6e151872bed5079ab7b5c19ad4ec109aa14f6113eaef7ce569e706cb7218577", func := "corrector/correctorlaw10.ArenaChecks", spec := "arenaChecks", unfollowed := true, recurses := true, apart := false, narrowed := true }
def ArenaChecksUptoSaid : Prop := arenaChecksUptoRow.holds Try.pinned (OpenSpec.upto arenaChecksSpec)

/-- 'correctorlaw10.ArenaReaches', WHERE WHAT IT READS IS OF BULK AT MOST 1048576: true; the input reads as it did. -/
def arenaReachesUptoRow : OpenClaim := { program := "ytpijjenaadkjdaa", sum := "f6e151872bed5079ab7b5c19ad4ec109aa14f6113eaef7ce569e706cb7218577", func := "corrector/correctorlaw10.ArenaReaches", spec := "arenaReaches", unfollowed := true, recurses := true, apart := false, narrowed := true }
def ArenaReachesUptoSaid : Prop := arenaReachesUptoRow.holds Try.pinned (OpenSpec.upto arenaReachesSpec)

end Rows
end Go.Proofs.Ytpijjenaadkjdaa
