/-
  No cell of these rows narrows 'for every input' (looked for: loops, veiled, ifaces, maps, wideKeys, modest, calm, conditions, laid).
  DERIVED. THE GIVEN ROWS OF THIS SEAT. 8 by the template 'for every input the law returns true; each argument reads behind the call as it read before'; 0 by the template 'total and deterministic' (their statements: YtcjjohealloglaaTotals.lean).
  GIVEN WITH THE SEED: the statements are not yours to turn. If you find one false, say at which input.
  Laid BY PROGRAM, IN A SANDBOX (cutbox-rows.mjs): the forced cells as the released guide's own fill.sh prints them over the translation bec1d3cb80ee51de… (all of the seat's roots in one cut). By AI agents, Wed Nov 11 2026. No macro, syntax, notation, axiom, sorry.
-/
import Derived.Test.YtcjjohealloglaaChecked
import GoSem.Claim
import GoSem.ClaimJoined
import GoSem.ClaimMapViews
import Derived.JoinedTies
import Derived.KernelRfl
namespace Go.Proofs.Ytcjjohealloglaa
/- THE CELL 'sum', in the pinned program and in every row, IS THE sha256 OF THE DUMP (.gsa) THAT YtcjjohealloglaaProg.lean LOADS. Nothing in Lean hashes anything: it is a label: what it is worth is what the hold of that sum in a sandbox is worth. -/
noncomputable def Try.pinned : Pinned := { name := "ytcjjohealloglaa", sum := "bec1d3cb80ee51de0e6bd76d0114d3015030d04ad952283071485507c1212384", checked := Try.checked }
namespace Rows
def none {H : Type} : Left H := { results := [], args := [] }

/-- 'seamarklaw29.ErasureField': WHATEVER THE INPUT: true; the input reads as it did. -/
def erasureFieldSpec : ChangeSpec := { name := "erasureField", fn := fun _ => fun
  | [d1, d2, d3] => { results := [.lit (.bool true)], args := [d1, d2, d3] }
  | _ => none }
def erasureFieldRow : OpenClaim := { program := "ytcjjohealloglaa", sum := "bec1d3cb80ee51de0e6bd76d0114d3015030d04ad952283071485507c1212384", func := "seamark/seamarklaw29.ErasureField", spec := "erasureField", unfollowed := true, recurses := true, apart := false }
def ErasureFieldSaid : Prop := erasureFieldRow.holds Try.pinned (OpenSpec.ofChange erasureFieldSpec)

/-- ITS FALSE NEIGHBOUR: 'it returns false'. Refute it at one input. -/
def erasureFieldWrong : ChangeSpec := { name := "erasureField", fn := fun _ => fun
  | [d1, d2, d3] => { results := [.lit (.bool false)], args := [d1, d2, d3] }
  | _ => none }
def ErasureFieldWrongFalsely : Prop := erasureFieldRow.holds Try.pinned (OpenSpec.ofChange erasureFieldWrong)

/-- 'seamarklaw29.ErasureBack': WHATEVER THE INPUT: true; the input reads as it did. -/
def erasureBackSpec : ChangeSpec := { name := "erasureBack", fn := fun _ => fun
  | [d1, d2] => { results := [.lit (.bool true)], args := [d1, d2] }
  | _ => none }
def erasureBackRow : OpenClaim := { program := "ytcjjohealloglaa", sum := "bec1d3cb80ee51de0e6bd76d0114d3015030d04ad952283071485507c1212384", func := "seamark/seamarklaw29.ErasureBack", spec := "erasureBack", unfollowed := true, recurses := true, apart := false }
def ErasureBackSaid : Prop := erasureBackRow.holds Try.pinned (OpenSpec.ofChange erasureBackSpec)

/-- ITS FALSE NEIGHBOUR: 'it returns false'. Refute it at one input. -/
def erasureBackWrong : ChangeSpec := { name := "erasureBack", fn := fun _ => fun
  | [d1, d2] => { results := [.lit (.bool false)], args := [d1, d2] }
  | _ => none }
def ErasureBackWrongFalsely : Prop := erasureBackRow.holds Try.pinned (OpenSpec.ofChange erasureBackWrong)

/-- 'seamarklaw29.ErasurePieces': WHATEVER THE INPUT: true; the input reads as it did. -/
def erasurePiecesSpec : ChangeSpec := { name := "erasurePieces", fn := fun _ => fun
  | [d1, d2, d3] => { results := [.lit (.bool true)], args := [d1, d2, d3] }
  | _ => none }
def erasurePiecesRow : OpenClaim := { program := "ytcjjohealloglaa", sum := "bec1d3cb80ee51de0e6bd76d0114d3015030d04ad952283071485507c1212384", func := "seamark/seamarklaw29.ErasurePieces", spec := "erasurePieces", unfollowed := true, recurses := true, apart := false }
def ErasurePiecesSaid : Prop := erasurePiecesRow.holds Try.pinned (OpenSpec.ofChange erasurePiecesSpec)

/-- ITS FALSE NEIGHBOUR: 'it returns false'. Refute it at one input. -/
def erasurePiecesWrong : ChangeSpec := { name := "erasurePieces", fn := fun _ => fun
  | [d1, d2, d3] => { results := [.lit (.bool false)], args := [d1, d2, d3] }
  | _ => none }
def ErasurePiecesWrongFalsely : Prop := erasurePiecesRow.holds Try.pinned (OpenSpec.ofChange erasurePiecesWrong)

/-- 'seamarklaw29.ErasureLinear': WHATEVER THE INPUT: true; the input reads as it did. -/
def erasureLinearSpec : ChangeSpec := { name := "erasureLinear", fn := fun _ => fun
  | [d1, d2] => { results := [.lit (.bool true)], args := [d1, d2] }
  | _ => none }
def erasureLinearRow : OpenClaim := { program := "ytcjjohealloglaa", sum := "bec1d3cb80ee51de0e6bd76d0114d3015030d04ad952283071485507c1212384", func := "seamark/seamarklaw29.ErasureLinear", spec := "erasureLinear", unfollowed := true, recurses := true, apart := false }
def ErasureLinearSaid : Prop := erasureLinearRow.holds Try.pinned (OpenSpec.ofChange erasureLinearSpec)

/-- ITS FALSE NEIGHBOUR: 'it returns false'. Refute it at one input. -/
def erasureLinearWrong : ChangeSpec := { name := "erasureLinear", fn := fun _ => fun
  | [d1, d2] => { results := [.lit (.bool false)], args := [d1, d2] }
  | _ => none }
def ErasureLinearWrongFalsely : Prop := erasureLinearRow.holds Try.pinned (OpenSpec.ofChange erasureLinearWrong)

/-- 'seamarklaw29.ErasureChanges': WHATEVER THE INPUT: true; the input reads as it did. -/
def erasureChangesSpec : ChangeSpec := { name := "erasureChanges", fn := fun _ => fun
  | [d1, d2, d3, d4, d5, d6, d7] => { results := [.lit (.bool true)], args := [d1, d2, d3, d4, d5, d6, d7] }
  | _ => none }
def erasureChangesRow : OpenClaim := { program := "ytcjjohealloglaa", sum := "bec1d3cb80ee51de0e6bd76d0114d3015030d04ad952283071485507c1212384", func := "seamark/seamarklaw29.ErasureChanges", spec := "erasureChanges", unfollowed := true, recurses := true, apart := false }
def ErasureChangesSaid : Prop := erasureChangesRow.holds Try.pinned (OpenSpec.ofChange erasureChangesSpec)

/-- ITS FALSE NEIGHBOUR: 'it returns false'. Refute it at one input. -/
def erasureChangesWrong : ChangeSpec := { name := "erasureChanges", fn := fun _ => fun
  | [d1, d2, d3, d4, d5, d6, d7] => { results := [.lit (.bool false)], args := [d1, d2, d3, d4, d5, d6, d7] }
  | _ => none }
def ErasureChangesWrongFalsely : Prop := erasureChangesRow.holds Try.pinned (OpenSpec.ofChange erasureChangesWrong)

/-- 'seamarklaw29.ErasureMatchesReference': WHATEVER THE INPUT: true; the input reads as it did. -/
def erasureMatchesReferenceSpec : ChangeSpec := { name := "erasureMatchesReference", fn := fun _ => fun
  | [d1, d2, d3, d4, d5, d6, d7, d8, d9] => { results := [.lit (.bool true)], args := [d1, d2, d3, d4, d5, d6, d7, d8, d9] }
  | _ => none }
def erasureMatchesReferenceRow : OpenClaim := { program := "ytcjjohealloglaa", sum := "bec1d3cb80ee51de0e6bd76d0114d3015030d04ad952283071485507c1212384", func := "seamark/seamarklaw29.ErasureMatchesReference", spec := "erasureMatchesReference", unfollowed := true, recurses := true, apart := false }
def ErasureMatchesReferenceSaid : Prop := erasureMatchesReferenceRow.holds Try.pinned (OpenSpec.ofChange erasureMatchesReferenceSpec)

/-- ITS FALSE NEIGHBOUR: 'it returns false'. Refute it at one input. -/
def erasureMatchesReferenceWrong : ChangeSpec := { name := "erasureMatchesReference", fn := fun _ => fun
  | [d1, d2, d3, d4, d5, d6, d7, d8, d9] => { results := [.lit (.bool false)], args := [d1, d2, d3, d4, d5, d6, d7, d8, d9] }
  | _ => none }
def ErasureMatchesReferenceWrongFalsely : Prop := erasureMatchesReferenceRow.holds Try.pinned (OpenSpec.ofChange erasureMatchesReferenceWrong)

/-- 'seamarklaw29.ErasureRepair': WHATEVER THE INPUT: true; the input reads as it did. -/
def erasureRepairSpec : ChangeSpec := { name := "erasureRepair", fn := fun _ => fun
  | [d1, d2, d3] => { results := [.lit (.bool true)], args := [d1, d2, d3] }
  | _ => none }
def erasureRepairRow : OpenClaim := { program := "ytcjjohealloglaa", sum := "bec1d3cb80ee51de0e6bd76d0114d3015030d04ad952283071485507c1212384", func := "seamark/seamarklaw29.ErasureRepair", spec := "erasureRepair", unfollowed := true, recurses := true, apart := false }
def ErasureRepairSaid : Prop := erasureRepairRow.holds Try.pinned (OpenSpec.ofChange erasureRepairSpec)

/-- ITS FALSE NEIGHBOUR: 'it returns false'. Refute it at one input. -/
def erasureRepairWrong : ChangeSpec := { name := "erasureRepair", fn := fun _ => fun
  | [d1, d2, d3] => { results := [.lit (.bool false)], args := [d1, d2, d3] }
  | _ => none }
def ErasureRepairWrongFalsely : Prop := erasureRepairRow.holds Try.pinned (OpenSpec.ofChange erasureRepairWrong)

/-- 'seamarklaw29.ErasureOrder': WHATEVER THE INPUT: true; the input reads as it did. -/
def erasureOrderSpec : ChangeSpec := { name := "erasureOrder", fn := fun _ => fun
  | [d1, d2, d3, d4, d5, d6] => { results := [.lit (.bool true)], args := [d1, d2, d3, d4, d5, d6] }
  | _ => none }
def erasureOrderRow : OpenClaim := { program := "ytcjjohealloglaa", sum := "bec1d3cb80ee51de0e6bd76d0114d3015030d04ad952283071485507c1212384", func := "seamark/seamarklaw29.ErasureOrder", spec := "erasureOrder", unfollowed := true, recurses := true, apart := false }
def ErasureOrderSaid : Prop := erasureOrderRow.holds Try.pinned (OpenSpec.ofChange erasureOrderSpec)

/-- ITS FALSE NEIGHBOUR: 'it returns false'. Refute it at one input. -/
def erasureOrderWrong : ChangeSpec := { name := "erasureOrder", fn := fun _ => fun
  | [d1, d2, d3, d4, d5, d6] => { results := [.lit (.bool false)], args := [d1, d2, d3, d4, d5, d6] }
  | _ => none }
def ErasureOrderWrongFalsely : Prop := erasureOrderRow.holds Try.pinned (OpenSpec.ofChange erasureOrderWrong)

/- THE SECOND FORM. 'bulk': how many values and letters a reading holds, each counted each time it is reached (what is shared counts as often as it is met; a slice's spare places count too). A statement '..UptoSaid' is the law's where the arguments, and the package variables that the reading takes, are together of bulk at most 1048576: NARROWER than '..Said'. Prove '..Said' where nothing that the law and all that it calls make is longer than what came in: it says more and counts as full. Else prove '..UptoSaid'. A law counts once. -/
mutual
def uptoBulk {H : Type} : DataW H → Nat
  | .lit (.string bytes) => bytes.length + 1
  | .lit _ => 1
  | .nil => 1
  | .ptr d => uptoBulk d + 1
  | .slice elems spare => uptoBulkAll elems + uptoBulkAll spare + 1
  | .agg parts => uptoBulkAll parts + 1
  | .iface _ d => uptoBulk d + 1
  | .map entries => uptoBulkEntries entries + 1
  | .held _ => 1
def uptoBulkAll {H : Type} : List (DataW H) → Nat
  | [] => 0
  | d :: r => uptoBulk d + uptoBulkAll r
def uptoBulkEntries {H : Type} : List (Lit × DataW H) → Nat
  | [] => 0
  | x :: r => uptoBulkEntry x + uptoBulkEntries r
def uptoBulkEntry {H : Type} : Lit × DataW H → Nat
  | (.string bytes, d) => bytes.length + uptoBulk d + 1
  | (_, d) => uptoBulk d + 1
 end
def uptoSmall : (H : Type) → List (DataW H) → Bool := fun _ ds => decide (uptoBulkAll ds ≤ 1048576)
def OpenSpec.upto (s : _root_.Go.ChangeSpec) : _root_.Go.OpenSpec := { _root_.Go.OpenSpec.ofChange s with cond := some uptoSmall }

/-- 'seamarklaw29.ErasureField', WHERE WHAT IT READS IS OF BULK AT MOST 1048576: true; the input reads as it did. -/
def erasureFieldUptoRow : OpenClaim := { program := "ytcjjohealloglaa", sum := "bec1d3cb80ee51de0e6bd76d0114d3015030d04ad952283071485507c1212384", func := "seamark/seamarklaw29.ErasureField", spec := "erasureField", unfollowed := true, recurses := true, apart := false, narrowed := true }
def ErasureFieldUptoSaid : Prop := erasureFieldUptoRow.holds Try.pinned (OpenSpec.upto erasureFieldSpec)

/-- 'seamarklaw29.ErasureBack', WHERE WHAT IT READS IS OF BULK AT MOST 1048576: true; the input reads as it did. -/
def erasureBackUptoRow : OpenClaim := { program := "ytcjjohealloglaa", sum := "bec1d3cb80ee51de0e6bd76d0114d3015030d04ad952283071485507c1212384", func := "seamark/seamarklaw29.ErasureBack", spec := "erasureBack", unfollowed := true, recurses := true, apart := false, narrowed := true }
def ErasureBackUptoSaid : Prop := erasureBackUptoRow.holds Try.pinned (OpenSpec.upto erasureBackSpec)

/-- 'seamarklaw29.ErasurePieces', WHERE WHAT IT READS IS OF BULK AT MOST 1048576: true; the input reads as it did. -/
def erasurePiecesUptoRow : OpenClaim := { program := "ytcjjohealloglaa", sum := "bec1d3cb80ee51de0e6bd76d0114d3015030d04ad952283071485507c1212384", func := "seamark/seamarklaw29.ErasurePieces", spec := "erasurePieces", unfollowed := true, recurses := true, apart := false, narrowed := true }
def ErasurePiecesUptoSaid : Prop := erasurePiecesUptoRow.holds Try.pinned (OpenSpec.upto erasurePiecesSpec)

/-- 'seamarklaw29.ErasureLinear', WHERE WHAT IT READS IS OF BULK AT MOST 1048576: true; the input reads as it did. -/
def erasureLinearUptoRow : OpenClaim := { program := "ytcjjohealloglaa", sum := "bec1d3cb80ee51de0e6bd76d0114d3015030d04ad952283071485507c1212384", func := "seamark/seamarklaw29.ErasureLinear", spec := "erasureLinear", unfollowed := true, recurses := true, apart := false, narrowed := true }
def ErasureLinearUptoSaid : Prop := erasureLinearUptoRow.holds Try.pinned (OpenSpec.upto erasureLinearSpec)

/-- 'seamarklaw29.ErasureChanges', WHERE WHAT IT READS IS OF BULK AT MOST 1048576: true; the input reads as it did. -/
def erasureChangesUptoRow : OpenClaim := { program := "ytcjjohealloglaa", sum := "bec1d3cb80ee51de0e6bd76d0114d3015030d04ad952283071485507c1212384", func := "seamark/seamarklaw29.ErasureChanges", spec := "erasureChanges", unfollowed := true, recurses := true, apart := false, narrowed := true }
def ErasureChangesUptoSaid : Prop := erasureChangesUptoRow.holds Try.pinned (OpenSpec.upto erasureChangesSpec)

/-- 'seamarklaw29.ErasureMatchesReference', WHERE WHAT IT READS IS OF BULK AT MOST 1048576: true; the input reads as it did. -/
def erasureMatchesReferenceUptoRow : OpenClaim := { program := "ytcjjohealloglaa", sum := "bec1d3cb80ee51de0e6bd76d0114d3015030d04ad952283071485507c1212384", func := "seamark/seamarklaw29.ErasureMatchesReference", spec := "erasureMatchesReference", unfollowed := true, recurses := true, apart := false, narrowed := true }
def ErasureMatchesReferenceUptoSaid : Prop := erasureMatchesReferenceUptoRow.holds Try.pinned (OpenSpec.upto erasureMatchesReferenceSpec)

/-- 'seamarklaw29.ErasureRepair', WHERE WHAT IT READS IS OF BULK AT MOST 1048576: true; the input reads as it did. -/
def erasureRepairUptoRow : OpenClaim := { program := "ytcjjohealloglaa", sum := "bec1d3cb80ee51de0e6bd76d0114d3015030d04ad952283071485507c1212384", func := "seamark/seamarklaw29.ErasureRepair", spec := "erasureRepair", unfollowed := true, recurses := true, apart := false, narrowed := true }
def ErasureRepairUptoSaid : Prop := erasureRepairUptoRow.holds Try.pinned (OpenSpec.upto erasureRepairSpec)

/-- 'seamarklaw29.ErasureOrder', WHERE WHAT IT READS IS OF BULK AT MOST 1048576: true; the input reads as it did. -/
def erasureOrderUptoRow : OpenClaim := { program := "ytcjjohealloglaa", sum := "bec1d3cb80ee51de0e6bd76d0114d3015030d04ad952283071485507c1212384", func := "seamark/seamarklaw29.ErasureOrder", spec := "erasureOrder", unfollowed := true, recurses := true, apart := false, narrowed := true }
def ErasureOrderUptoSaid : Prop := erasureOrderUptoRow.holds Try.pinned (OpenSpec.upto erasureOrderSpec)

end Rows
end Go.Proofs.Ytcjjohealloglaa
