/-
  No cell of these rows narrows 'for every input' (looked for: loops, veiled, ifaces, maps, wideKeys, modest, calm, conditions, laid).
  DERIVED. THE GIVEN ROWS OF THIS SEAT. 9 by the template 'for every input the law returns true; each argument reads behind the call as it read before'; 0 by the template 'total and deterministic' (their statements: YtdajldmgdpggkaaTotals.lean).
  GIVEN WITH THE SEED: the statements are not yours to turn. If you find one false, say at which input.
  Laid BY PROGRAM, IN A SANDBOX (cutbox-rows.mjs): the forced cells as the released guide's own fill.sh prints them over the translation 8334d0fc391456e2… (all of the seat's roots in one cut). By AI agents, Wed Nov 11 2026. No macro, syntax, notation, axiom, sorry.
-/
import Derived.Test.YtdajldmgdpggkaaChecked
import GoSem.Claim
import GoSem.ClaimJoined
import GoSem.ClaimMapViews
import Derived.JoinedTies
import Derived.KernelRfl
namespace Go.Proofs.Ytdajldmgdpggkaa
/- THE CELL 'sum', in the pinned program and in every row, IS THE sha256 OF THE DUMP (.gsa) THAT YtdajldmgdpggkaaProg.lean LOADS. Nothing in Lean hashes anything: it is a label: what it is worth is what the hold of that sum in a sandbox is worth. -/
noncomputable def Try.pinned : Pinned := { name := "ytdajldmgdpggkaa", sum := "8334d0fc391456e2ac650f7a5ab0e9d4397feb0d274b60c7c380e4a02ed2ba71", checked := Try.checked }
namespace Rows
def none {H : Type} : Left H := { results := [], args := [] }

/-- 'correctorlaw4.EditFirst': WHATEVER THE INPUT: true; the input reads as it did. -/
def editFirstSpec : ChangeSpec := { name := "editFirst", fn := fun _ => fun
  | [d1, d2] => { results := [.lit (.bool true)], args := [d1, d2] }
  | _ => none }
def editFirstRow : OpenClaim := { program := "ytdajldmgdpggkaa", sum := "8334d0fc391456e2ac650f7a5ab0e9d4397feb0d274b60c7c380e4a02ed2ba71", func := "corrector/correctorlaw4.EditFirst", spec := "editFirst", unfollowed := true, recurses := true, apart := false }
def EditFirstSaid : Prop := editFirstRow.holds Try.pinned (OpenSpec.ofChange editFirstSpec)

/-- ITS FALSE NEIGHBOUR: 'it returns false'. Refute it at one input. -/
def editFirstWrong : ChangeSpec := { name := "editFirst", fn := fun _ => fun
  | [d1, d2] => { results := [.lit (.bool false)], args := [d1, d2] }
  | _ => none }
def EditFirstWrongFalsely : Prop := editFirstRow.holds Try.pinned (OpenSpec.ofChange editFirstWrong)

/-- 'correctorlaw4.EditChooses': WHATEVER THE INPUT: true; the input reads as it did. -/
def editChoosesSpec : ChangeSpec := { name := "editChooses", fn := fun _ => fun
  | [d1, d2, d3] => { results := [.lit (.bool true)], args := [d1, d2, d3] }
  | _ => none }
def editChoosesRow : OpenClaim := { program := "ytdajldmgdpggkaa", sum := "8334d0fc391456e2ac650f7a5ab0e9d4397feb0d274b60c7c380e4a02ed2ba71", func := "corrector/correctorlaw4.EditChooses", spec := "editChooses", unfollowed := true, recurses := true, apart := false }
def EditChoosesSaid : Prop := editChoosesRow.holds Try.pinned (OpenSpec.ofChange editChoosesSpec)

/-- ITS FALSE NEIGHBOUR: 'it returns false'. Refute it at one input. -/
def editChoosesWrong : ChangeSpec := { name := "editChooses", fn := fun _ => fun
  | [d1, d2, d3] => { results := [.lit (.bool false)], args := [d1, d2, d3] }
  | _ => none }
def EditChoosesWrongFalsely : Prop := editChoosesRow.holds Try.pinned (OpenSpec.ofChange editChoosesWrong)

/-- 'correctorlaw4.EditRows': WHATEVER THE INPUT: true; the input reads as it did. -/
def editRowsSpec : ChangeSpec := { name := "editRows", fn := fun _ => fun
  | [d1, d2, d3] => { results := [.lit (.bool true)], args := [d1, d2, d3] }
  | _ => none }
def editRowsRow : OpenClaim := { program := "ytdajldmgdpggkaa", sum := "8334d0fc391456e2ac650f7a5ab0e9d4397feb0d274b60c7c380e4a02ed2ba71", func := "corrector/correctorlaw4.EditRows", spec := "editRows", unfollowed := true, recurses := true, apart := false }
def EditRowsSaid : Prop := editRowsRow.holds Try.pinned (OpenSpec.ofChange editRowsSpec)

/-- ITS FALSE NEIGHBOUR: 'it returns false'. Refute it at one input. -/
def editRowsWrong : ChangeSpec := { name := "editRows", fn := fun _ => fun
  | [d1, d2, d3] => { results := [.lit (.bool false)], args := [d1, d2, d3] }
  | _ => none }
def EditRowsWrongFalsely : Prop := editRowsRow.holds Try.pinned (OpenSpec.ofChange editRowsWrong)

/-- 'correctorlaw4.EditChecks': WHATEVER THE INPUT: true; the input reads as it did. -/
def editChecksSpec : ChangeSpec := { name := "editChecks", fn := fun _ => fun
  | [d1, d2, d3] => { results := [.lit (.bool true)], args := [d1, d2, d3] }
  | _ => none }
def editChecksRow : OpenClaim := { program := "ytdajldmgdpggkaa", sum := "8334d0fc391456e2ac650f7a5ab0e9d4397feb0d274b60c7c380e4a02ed2ba71", func := "corrector/correctorlaw4.EditChecks", spec := "editChecks", unfollowed := true, recurses := true, apart := false }
def EditChecksSaid : Prop := editChecksRow.holds Try.pinned (OpenSpec.ofChange editChecksSpec)

/-- ITS FALSE NEIGHBOUR: 'it returns false'. Refute it at one input. -/
def editChecksWrong : ChangeSpec := { name := "editChecks", fn := fun _ => fun
  | [d1, d2, d3] => { results := [.lit (.bool false)], args := [d1, d2, d3] }
  | _ => none }
def EditChecksWrongFalsely : Prop := editChecksRow.holds Try.pinned (OpenSpec.ofChange editChecksWrong)

/-- 'correctorlaw4.EditSurvives': WHATEVER THE INPUT: true; the input reads as it did. -/
def editSurvivesSpec : ChangeSpec := { name := "editSurvives", fn := fun _ => fun
  | [d1, d2] => { results := [.lit (.bool true)], args := [d1, d2] }
  | _ => none }
def editSurvivesRow : OpenClaim := { program := "ytdajldmgdpggkaa", sum := "8334d0fc391456e2ac650f7a5ab0e9d4397feb0d274b60c7c380e4a02ed2ba71", func := "corrector/correctorlaw4.EditSurvives", spec := "editSurvives", unfollowed := true, recurses := true, apart := false }
def EditSurvivesSaid : Prop := editSurvivesRow.holds Try.pinned (OpenSpec.ofChange editSurvivesSpec)

/-- ITS FALSE NEIGHBOUR: 'it returns false'. Refute it at one input. -/
def editSurvivesWrong : ChangeSpec := { name := "editSurvives", fn := fun _ => fun
  | [d1, d2] => { results := [.lit (.bool false)], args := [d1, d2] }
  | _ => none }
def EditSurvivesWrongFalsely : Prop := editSurvivesRow.holds Try.pinned (OpenSpec.ofChange editSurvivesWrong)

/-- 'correctorlaw4.EditLong': WHATEVER THE INPUT: true; the input reads as it did. -/
def editLongSpec : ChangeSpec := { name := "editLong", fn := fun _ => fun
  | [d1, d2] => { results := [.lit (.bool true)], args := [d1, d2] }
  | _ => none }
def editLongRow : OpenClaim := { program := "ytdajldmgdpggkaa", sum := "8334d0fc391456e2ac650f7a5ab0e9d4397feb0d274b60c7c380e4a02ed2ba71", func := "corrector/correctorlaw4.EditLong", spec := "editLong", unfollowed := true, recurses := true, apart := false }
def EditLongSaid : Prop := editLongRow.holds Try.pinned (OpenSpec.ofChange editLongSpec)

/-- ITS FALSE NEIGHBOUR: 'it returns false'. Refute it at one input. -/
def editLongWrong : ChangeSpec := { name := "editLong", fn := fun _ => fun
  | [d1, d2] => { results := [.lit (.bool false)], args := [d1, d2] }
  | _ => none }
def EditLongWrongFalsely : Prop := editLongRow.holds Try.pinned (OpenSpec.ofChange editLongWrong)

/-- 'correctorlaw4.EditMaps': WHATEVER THE INPUT: true; the input reads as it did. -/
def editMapsSpec : ChangeSpec := { name := "editMaps", fn := fun _ => fun
  | [d1, d2] => { results := [.lit (.bool true)], args := [d1, d2] }
  | _ => none }
def editMapsRow : OpenClaim := { program := "ytdajldmgdpggkaa", sum := "8334d0fc391456e2ac650f7a5ab0e9d4397feb0d274b60c7c380e4a02ed2ba71", func := "corrector/correctorlaw4.EditMaps", spec := "editMaps", unfollowed := true, recurses := true, apart := false }
def EditMapsSaid : Prop := editMapsRow.holds Try.pinned (OpenSpec.ofChange editMapsSpec)

/-- ITS FALSE NEIGHBOUR: 'it returns false'. Refute it at one input. -/
def editMapsWrong : ChangeSpec := { name := "editMaps", fn := fun _ => fun
  | [d1, d2] => { results := [.lit (.bool false)], args := [d1, d2] }
  | _ => none }
def EditMapsWrongFalsely : Prop := editMapsRow.holds Try.pinned (OpenSpec.ofChange editMapsWrong)

/-- 'correctorlaw4.EditNone': WHATEVER THE INPUT: true; the input reads as it did. -/
def editNoneSpec : ChangeSpec := { name := "editNone", fn := fun _ => fun
  | [d1, d2, d3] => { results := [.lit (.bool true)], args := [d1, d2, d3] }
  | _ => none }
def editNoneRow : OpenClaim := { program := "ytdajldmgdpggkaa", sum := "8334d0fc391456e2ac650f7a5ab0e9d4397feb0d274b60c7c380e4a02ed2ba71", func := "corrector/correctorlaw4.EditNone", spec := "editNone", unfollowed := true, recurses := true, apart := false }
def EditNoneSaid : Prop := editNoneRow.holds Try.pinned (OpenSpec.ofChange editNoneSpec)

/-- ITS FALSE NEIGHBOUR: 'it returns false'. Refute it at one input. -/
def editNoneWrong : ChangeSpec := { name := "editNone", fn := fun _ => fun
  | [d1, d2, d3] => { results := [.lit (.bool false)], args := [d1, d2, d3] }
  | _ => none }
def EditNoneWrongFalsely : Prop := editNoneRow.holds Try.pinned (OpenSpec.ofChange editNoneWrong)

/-- 'correctorlaw4.EditMapsOrder': WHATEVER THE INPUT: true; the input reads as it did. -/
def editMapsOrderSpec : ChangeSpec := { name := "editMapsOrder", fn := fun _ => fun
  | [d1, d2] => { results := [.lit (.bool true)], args := [d1, d2] }
  | _ => none }
def editMapsOrderRow : OpenClaim := { program := "ytdajldmgdpggkaa", sum := "8334d0fc391456e2ac650f7a5ab0e9d4397feb0d274b60c7c380e4a02ed2ba71", func := "corrector/correctorlaw4.EditMapsOrder", spec := "editMapsOrder", unfollowed := true, recurses := true, apart := false }
def EditMapsOrderSaid : Prop := editMapsOrderRow.holds Try.pinned (OpenSpec.ofChange editMapsOrderSpec)

/-- ITS FALSE NEIGHBOUR: 'it returns false'. Refute it at one input. -/
def editMapsOrderWrong : ChangeSpec := { name := "editMapsOrder", fn := fun _ => fun
  | [d1, d2] => { results := [.lit (.bool false)], args := [d1, d2] }
  | _ => none }
def EditMapsOrderWrongFalsely : Prop := editMapsOrderRow.holds Try.pinned (OpenSpec.ofChange editMapsOrderWrong)

/- THE SECOND FORM. 'bulk': how many values and letters a reading holds, each counted each time it is reached (what is shared counts as often as it is met; a slice's spare places count too). A statement '..UptoSaid' is the law's where the arguments, and the package variables that the reading takes, are together of bulk at most 1048576: NARROWER than '..Said'. Prove '..Said' where nothing that the law and all that it calls make is longer than what came in: it says more and counts as full. Else prove '..UptoSaid'. A law counts once. -/
mutual
def uptoBulk {H : Type} : DataW H → Nat
  | .lit (.string bytes) => bytes.length + 1
  | .lit _ => 1
  | .nil => 1
  | .ptr d => uptoBulk d + 1
  | .slice elems spare => uptoBulkAll elems + uptoBulkAll spare + 1
  | .agg parts => uptoBulkAll parts + 1
  | .iface _ d => uptoBulk d + 1
  | .map entries => uptoBulkEntries entries + 1
  | .held _ => 1
def uptoBulkAll {H : Type} : List (DataW H) → Nat
  | [] => 0
  | d :: r => uptoBulk d + uptoBulkAll r
def uptoBulkEntries {H : Type} : List (Lit × DataW H) → Nat
  | [] => 0
  | x :: r => uptoBulkEntry x + uptoBulkEntries r
def uptoBulkEntry {H : Type} : Lit × DataW H → Nat
  | (.string bytes, d) => bytes.length + uptoBulk d + 1
  | (_, d) => uptoBulk d + 1
 end
def uptoSmall : (H : Type) → List (DataW H) → Bool := fun _ ds => decide (uptoBulkAll ds ≤ 1048576)
def OpenSpec.upto (s : _root_.Go.ChangeSpec) : _root_.Go.OpenSpec := { _root_.Go.OpenSpec.ofChange s with cond := some uptoSmall }

/-- 'correctorlaw4.EditFirst', WHERE WHAT IT READS IS OF BULK AT MOST 1048576: true; the input reads as it did. -/
def editFirstUptoRow : OpenClaim := { program := "ytdajldmgdpggkaa", sum := "8334d0fc391456e2ac650f7a5ab0e9d4397feb0d274b60c7c380e4a02ed2ba71", func := "corrector/correctorlaw4.EditFirst", spec := "editFirst", unfollowed := true, recurses := true, apart := false, narrowed := true }
def EditFirstUptoSaid : Prop := editFirstUptoRow.holds Try.pinned (OpenSpec.upto editFirstSpec)

/-- 'correctorlaw4.EditChooses', WHERE WHAT IT READS IS OF BULK AT MOST 1048576: true; the input reads as it did. -/
def editChoosesUptoRow : OpenClaim := { program := "ytdajldmgdpggkaa", sum := "8334d0fc391456e2ac650f7a5ab0e9d4397feb0d274b60c7c380e4a02ed2ba71", func := "corrector/correctorlaw4.EditChooses", spec := "editChooses", unfollowed := true, recurses := true, apart := false, narrowed := true }
def EditChoosesUptoSaid : Prop := editChoosesUptoRow.holds Try.pinned (OpenSpec.upto editChoosesSpec)

/-- 'correctorlaw4.EditRows', WHERE WHAT IT READS IS OF BULK AT MOST 1048576: true; the input reads as it did. -/
def editRowsUptoRow : OpenClaim := { program := "ytdajldmgdpggkaa", sum := "8334d0fc391456e2ac650f7a5ab0e9d4397feb0d274b60c7c380e4a02ed2ba71", func := "corrector/correctorlaw4.EditRows", spec := "editRows", unfollowed := true, recurses := true, apart := false, narrowed := true }
def EditRowsUptoSaid : Prop := editRowsUptoRow.holds Try.pinned (OpenSpec.upto editRowsSpec)

/-- 'correctorlaw4.EditChecks', WHERE WHAT IT READS IS OF BULK AT MOST 1048576: true; the input reads as it did. -/
def editChecksUptoRow : OpenClaim := { program := "ytdajldmgdpggkaa", sum := "8334d0fc391456e2ac650f7a5ab0e9d4397feb0d274b60c7c380e4a02ed2ba71", func := "corrector/correctorlaw4.EditChecks", spec := "editChecks", unfollowed := true, recurses := true, apart := false, narrowed := true }
def EditChecksUptoSaid : Prop := editChecksUptoRow.holds Try.pinned (OpenSpec.upto editChecksSpec)

/-- 'correctorlaw4.EditSurvives', WHERE WHAT IT READS IS OF BULK AT MOST 1048576: true; the input reads as it did. -/
def editSurvivesUptoRow : OpenClaim := { program := "ytdajldmgdpggkaa", sum := "8334d0fc391456e2ac650f7a5ab0e9d4397feb0d274b60c7c380e4a02ed2ba71", func := "corrector/correctorlaw4.EditSurvives", spec := "editSurvives", unfollowed := true, recurses := true, apart := false, narrowed := true }
def EditSurvivesUptoSaid : Prop := editSurvivesUptoRow.holds Try.pinned (OpenSpec.upto editSurvivesSpec)

/-- 'correctorlaw4.EditLong', WHERE WHAT IT READS IS OF BULK AT MOST 1048576: true; the input reads as it did. -/
def editLongUptoRow : OpenClaim := { program := "ytdajldmgdpggkaa", sum := "8334d0fc391456e2ac650f7a5ab0e9d4397feb0d274b60c7c380e4a02ed2ba71", func := "corrector/correctorlaw4.EditLong", spec := "editLong", unfollowed := true, recurses := true, apart := false, narrowed := true }
def EditLongUptoSaid : Prop := editLongUptoRow.holds Try.pinned (OpenSpec.upto editLongSpec)

/-- 'correctorlaw4.EditMaps', WHERE WHAT IT READS IS OF BULK AT MOST 1048576: true; the input reads as it did. -/
def editMapsUptoRow : OpenClaim := { program := "ytdajldmgdpggkaa", sum := "8334d0fc391456e2ac650f7a5ab0e9d4397feb0d274b60c7c380e4a02ed2ba71", func := "corrector/correctorlaw4.EditMaps", spec := "editMaps", unfollowed := true, recurses := true, apart := false, narrowed := true }
def EditMapsUptoSaid : Prop := editMapsUptoRow.holds Try.pinned (OpenSpec.upto editMapsSpec)

/-- 'correctorlaw4.EditNone', WHERE WHAT IT READS IS OF BULK AT MOST 1048576: true; the input reads as it did. -/
def editNoneUptoRow : OpenClaim := { program := "ytdajldmgdpggkaa", sum := "8334d0fc391456e2ac650f7a5ab0e9d4397feb0d274b60c7c380e4a02ed2ba71", func := "corrector/correctorlaw4.EditNone", spec := "editNone", unfollowed := true, recurses := true, apart := false, narrowed := true }
def EditNoneUptoSaid : Prop := editNoneUptoRow.holds Try.pinned (OpenSpec.upto editNoneSpec)

/-- 'correctorlaw4.EditMapsOrder', WHERE WHAT IT READS IS OF BULK AT MOST 1048576: true; the input reads as it did. -/
def editMapsOrderUptoRow : OpenClaim := { program := "ytdajldmgdpggkaa", sum := "8334d0fc391456e2ac650f7a5ab0e9d4397feb0d274b60c7c380e4a02ed2ba71", func := "corrector/correctorlaw4.EditMapsOrder", spec := "editMapsOrder", unfollowed := true, recurses := true, apart := false, narrowed := true }
def EditMapsOrderUptoSaid : Prop := editMapsOrderUptoRow.holds Try.pinned (OpenSpec.upto editMapsOrderSpec)

end Rows
end Go.Proofs.Ytdajldmgdpggkaa
