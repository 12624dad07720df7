/-
  No cell of these rows narrows 'for every input' (looked for: loops, veiled, ifaces, maps, wideKeys, modest, calm, conditions, laid).
  DERIVED. THE GIVEN ROWS OF THIS SEAT. 7 by the template 'for every input the law returns true; each argument reads behind the call as it read before'; 0 by the template 'total and deterministic' (their statements: YtnekhlklflgodaaTotals.lean).
  GIVEN WITH THE SEED: the statements are not yours to turn. If you find one false, say at which input.
  Laid BY PROGRAM, IN A SANDBOX (cutbox-rows.mjs): the forced cells as the released guide's own fill.sh prints them over the translation 03559cfbff8e02fa… (all of the seat's roots in one cut). By AI agents, Wed Nov 11 2026. No macro, syntax, notation, axiom, sorry.
-/
import Derived.Test.YtnekhlklflgodaaChecked
import GoSem.Claim
import GoSem.ClaimJoined
import GoSem.ClaimMapViews
import Derived.JoinedTies
import Derived.KernelRfl
namespace Go.Proofs.Ytnekhlklflgodaa
/- THE CELL 'sum', in the pinned program and in every row, IS THE sha256 OF THE DUMP (.gsa) THAT YtnekhlklflgodaaProg.lean LOADS. Nothing in Lean hashes anything: it is a label: what it is worth is what the hold of that sum in a sandbox is worth. -/
noncomputable def Try.pinned : Pinned := { name := "ytnekhlklflgodaa", sum := "03559cfbff8e02fab85a7f36900ee731b6e44690d7bbc5e00e524322426c9b31", checked := Try.checked }
namespace Rows
def none {H : Type} : Left H := { results := [], args := [] }

/-- 'narratorlaw29.AssignmentSolve': WHATEVER THE INPUT: true; the input reads as it did. -/
def assignmentSolveSpec : ChangeSpec := { name := "assignmentSolve", fn := fun _ => fun
  | [d1, d2] => { results := [.lit (.bool true)], args := [d1, d2] }
  | _ => none }
def assignmentSolveRow : OpenClaim := { program := "ytnekhlklflgodaa", sum := "03559cfbff8e02fab85a7f36900ee731b6e44690d7bbc5e00e524322426c9b31", func := "narrator/narratorlaw29.AssignmentSolve", spec := "assignmentSolve", unfollowed := true, recurses := true, apart := false }
def AssignmentSolveSaid : Prop := assignmentSolveRow.holds Try.pinned (OpenSpec.ofChange assignmentSolveSpec)

/-- ITS FALSE NEIGHBOUR: 'it returns false'. Refute it at one input. -/
def assignmentSolveWrong : ChangeSpec := { name := "assignmentSolve", fn := fun _ => fun
  | [d1, d2] => { results := [.lit (.bool false)], args := [d1, d2] }
  | _ => none }
def AssignmentSolveWrongFalsely : Prop := assignmentSolveRow.holds Try.pinned (OpenSpec.ofChange assignmentSolveWrong)

/-- 'narratorlaw29.AssignmentPermutation': WHATEVER THE INPUT: true; the input reads as it did. -/
def assignmentPermutationSpec : ChangeSpec := { name := "assignmentPermutation", fn := fun _ => fun
  | [d1, d2] => { results := [.lit (.bool true)], args := [d1, d2] }
  | _ => none }
def assignmentPermutationRow : OpenClaim := { program := "ytnekhlklflgodaa", sum := "03559cfbff8e02fab85a7f36900ee731b6e44690d7bbc5e00e524322426c9b31", func := "narrator/narratorlaw29.AssignmentPermutation", spec := "assignmentPermutation", unfollowed := true, recurses := true, apart := false }
def AssignmentPermutationSaid : Prop := assignmentPermutationRow.holds Try.pinned (OpenSpec.ofChange assignmentPermutationSpec)

/-- ITS FALSE NEIGHBOUR: 'it returns false'. Refute it at one input. -/
def assignmentPermutationWrong : ChangeSpec := { name := "assignmentPermutation", fn := fun _ => fun
  | [d1, d2] => { results := [.lit (.bool false)], args := [d1, d2] }
  | _ => none }
def AssignmentPermutationWrongFalsely : Prop := assignmentPermutationRow.holds Try.pinned (OpenSpec.ofChange assignmentPermutationWrong)

/-- 'narratorlaw29.AssignmentShift': WHATEVER THE INPUT: true; the input reads as it did. -/
def assignmentShiftSpec : ChangeSpec := { name := "assignmentShift", fn := fun _ => fun
  | [d] => { results := [.lit (.bool true)], args := [d] }
  | _ => none }
def assignmentShiftRow : OpenClaim := { program := "ytnekhlklflgodaa", sum := "03559cfbff8e02fab85a7f36900ee731b6e44690d7bbc5e00e524322426c9b31", func := "narrator/narratorlaw29.AssignmentShift", spec := "assignmentShift", unfollowed := true, recurses := true, apart := false }
def AssignmentShiftSaid : Prop := assignmentShiftRow.holds Try.pinned (OpenSpec.ofChange assignmentShiftSpec)

/-- ITS FALSE NEIGHBOUR: 'it returns false'. Refute it at one input. -/
def assignmentShiftWrong : ChangeSpec := { name := "assignmentShift", fn := fun _ => fun
  | [d] => { results := [.lit (.bool false)], args := [d] }
  | _ => none }
def AssignmentShiftWrongFalsely : Prop := assignmentShiftRow.holds Try.pinned (OpenSpec.ofChange assignmentShiftWrong)

/-- 'narratorlaw29.AssignmentTranspose': WHATEVER THE INPUT: true; the input reads as it did. -/
def assignmentTransposeSpec : ChangeSpec := { name := "assignmentTranspose", fn := fun _ => fun
  | [d1, d2] => { results := [.lit (.bool true)], args := [d1, d2] }
  | _ => none }
def assignmentTransposeRow : OpenClaim := { program := "ytnekhlklflgodaa", sum := "03559cfbff8e02fab85a7f36900ee731b6e44690d7bbc5e00e524322426c9b31", func := "narrator/narratorlaw29.AssignmentTranspose", spec := "assignmentTranspose", unfollowed := true, recurses := true, apart := false }
def AssignmentTransposeSaid : Prop := assignmentTransposeRow.holds Try.pinned (OpenSpec.ofChange assignmentTransposeSpec)

/-- ITS FALSE NEIGHBOUR: 'it returns false'. Refute it at one input. -/
def assignmentTransposeWrong : ChangeSpec := { name := "assignmentTranspose", fn := fun _ => fun
  | [d1, d2] => { results := [.lit (.bool false)], args := [d1, d2] }
  | _ => none }
def AssignmentTransposeWrongFalsely : Prop := assignmentTransposeRow.holds Try.pinned (OpenSpec.ofChange assignmentTransposeWrong)

/-- 'narratorlaw29.AssignmentLeast': WHATEVER THE INPUT: true; the input reads as it did. -/
def assignmentLeastSpec : ChangeSpec := { name := "assignmentLeast", fn := fun _ => fun
  | [d1, d2] => { results := [.lit (.bool true)], args := [d1, d2] }
  | _ => none }
def assignmentLeastRow : OpenClaim := { program := "ytnekhlklflgodaa", sum := "03559cfbff8e02fab85a7f36900ee731b6e44690d7bbc5e00e524322426c9b31", func := "narrator/narratorlaw29.AssignmentLeast", spec := "assignmentLeast", unfollowed := true, recurses := true, apart := false }
def AssignmentLeastSaid : Prop := assignmentLeastRow.holds Try.pinned (OpenSpec.ofChange assignmentLeastSpec)

/-- ITS FALSE NEIGHBOUR: 'it returns false'. Refute it at one input. -/
def assignmentLeastWrong : ChangeSpec := { name := "assignmentLeast", fn := fun _ => fun
  | [d1, d2] => { results := [.lit (.bool false)], args := [d1, d2] }
  | _ => none }
def AssignmentLeastWrongFalsely : Prop := assignmentLeastRow.holds Try.pinned (OpenSpec.ofChange assignmentLeastWrong)

/-- 'narratorlaw29.AssignmentDiagonal': WHATEVER THE INPUT: true; the input reads as it did. -/
def assignmentDiagonalSpec : ChangeSpec := { name := "assignmentDiagonal", fn := fun _ => fun
  | [d1, d2] => { results := [.lit (.bool true)], args := [d1, d2] }
  | _ => none }
def assignmentDiagonalRow : OpenClaim := { program := "ytnekhlklflgodaa", sum := "03559cfbff8e02fab85a7f36900ee731b6e44690d7bbc5e00e524322426c9b31", func := "narrator/narratorlaw29.AssignmentDiagonal", spec := "assignmentDiagonal", unfollowed := true, recurses := true, apart := false }
def AssignmentDiagonalSaid : Prop := assignmentDiagonalRow.holds Try.pinned (OpenSpec.ofChange assignmentDiagonalSpec)

/-- ITS FALSE NEIGHBOUR: 'it returns false'. Refute it at one input. -/
def assignmentDiagonalWrong : ChangeSpec := { name := "assignmentDiagonal", fn := fun _ => fun
  | [d1, d2] => { results := [.lit (.bool false)], args := [d1, d2] }
  | _ => none }
def AssignmentDiagonalWrongFalsely : Prop := assignmentDiagonalRow.holds Try.pinned (OpenSpec.ofChange assignmentDiagonalWrong)

/-- 'narratorlaw29.AssignmentOptimal': WHATEVER THE INPUT: true; the input reads as it did. -/
def assignmentOptimalSpec : ChangeSpec := { name := "assignmentOptimal", fn := fun _ => fun
  | [d1, d2] => { results := [.lit (.bool true)], args := [d1, d2] }
  | _ => none }
def assignmentOptimalRow : OpenClaim := { program := "ytnekhlklflgodaa", sum := "03559cfbff8e02fab85a7f36900ee731b6e44690d7bbc5e00e524322426c9b31", func := "narrator/narratorlaw29.AssignmentOptimal", spec := "assignmentOptimal", unfollowed := true, recurses := true, apart := false }
def AssignmentOptimalSaid : Prop := assignmentOptimalRow.holds Try.pinned (OpenSpec.ofChange assignmentOptimalSpec)

/-- ITS FALSE NEIGHBOUR: 'it returns false'. Refute it at one input. -/
def assignmentOptimalWrong : ChangeSpec := { name := "assignmentOptimal", fn := fun _ => fun
  | [d1, d2] => { results := [.lit (.bool false)], args := [d1, d2] }
  | _ => none }
def AssignmentOptimalWrongFalsely : Prop := assignmentOptimalRow.holds Try.pinned (OpenSpec.ofChange assignmentOptimalWrong)

/- THE SECOND FORM. 'bulk': how many values and letters a reading holds, each counted each time it is reached (what is shared counts as often as it is met; a slice's spare places count too). A statement '..UptoSaid' is the law's where the arguments, and the package variables that the reading takes, are together of bulk at most 1048576: NARROWER than '..Said'. Prove '..Said' where nothing that the law and all that it calls make is longer than what came in: it says more and counts as full. Else prove '..UptoSaid'. A law counts once. -/
mutual
def uptoBulk {H : Type} : DataW H → Nat
  | .lit (.string bytes) => bytes.length + 1
  | .lit _ => 1
  | .nil => 1
  | .ptr d => uptoBulk d + 1
  | .slice elems spare => uptoBulkAll elems + uptoBulkAll spare + 1
  | .agg parts => uptoBulkAll parts + 1
  | .iface _ d => uptoBulk d + 1
  | .map entries => uptoBulkEntries entries + 1
  | .held _ => 1
def uptoBulkAll {H : Type} : List (DataW H) → Nat
  | [] => 0
  | d :: r => uptoBulk d + uptoBulkAll r
def uptoBulkEntries {H : Type} : List (Lit × DataW H) → Nat
  | [] => 0
  | x :: r => uptoBulkEntry x + uptoBulkEntries r
def uptoBulkEntry {H : Type} : Lit × DataW H → Nat
  | (.string bytes, d) => bytes.length + uptoBulk d + 1
  | (_, d) => uptoBulk d + 1
 end
def uptoSmall : (H : Type) → List (DataW H) → Bool := fun _ ds => decide (uptoBulkAll ds ≤ 1048576)
def OpenSpec.upto (s : _root_.Go.ChangeSpec) : _root_.Go.OpenSpec := { _root_.Go.OpenSpec.ofChange s with cond := some uptoSmall }

/-- 'narratorlaw29.AssignmentSolve', WHERE WHAT IT READS IS OF BULK AT MOST 1048576: true; the input reads as it did. -/
def assignmentSolveUptoRow : OpenClaim := { program := "ytnekhlklflgodaa", sum := "03559cfbff8e02fab85a7f36900ee731b6e44690d7bbc5e00e524322426c9b31", func := "narrator/narratorlaw29.AssignmentSolve", spec := "assignmentSolve", unfollowed := true, recurses := true, apart := false, narrowed := true }
def AssignmentSolveUptoSaid : Prop := assignmentSolveUptoRow.holds Try.pinned (OpenSpec.upto assignmentSolveSpec)

/-- 'narratorlaw29.AssignmentPermutation', WHERE WHAT IT READS IS OF BULK AT MOST 1048576: true; the input reads as it did. -/
def assignmentPermutationUptoRow : OpenClaim := { program := "ytnekhlklflgodaa", sum := "03559cfbff8e02fab85a7f36900ee731b6e44690d7bbc5e00e524322426c9b31", func := "narrator/narratorlaw29.AssignmentPermutation", spec := "assignmentPermutation", unfollowed := true, recurses := true, apart := false, narrowed := true }
def AssignmentPermutationUptoSaid : Prop := assignmentPermutationUptoRow.holds Try.pinned (OpenSpec.upto assignmentPermutationSpec)

/-- 'narratorlaw29.AssignmentShift', WHERE WHAT IT READS IS OF BULK AT MOST 1048576: true; the input reads as it did. -/
def assignmentShiftUptoRow : OpenClaim := { program := "ytnekhlklflgodaa", sum := "03559cfbff8e02fab85a7f36900ee731b6e44690d7bbc5e00e524322426c9b31", func := "narrator/narratorlaw29.AssignmentShift", spec := "assignmentShift", unfollowed := true, recurses := true, apart := false, narrowed := true }
def AssignmentShiftUptoSaid : Prop := assignmentShiftUptoRow.holds Try.pinned (OpenSpec.upto assignmentShiftSpec)

/-- 'narratorlaw29.AssignmentTranspose', WHERE WHAT IT READS IS OF BULK AT MOST 1048576: true; the input reads as it did. -/
def assignmentTransposeUptoRow : OpenClaim := { program := "ytnekhlklflgodaa", sum := "03559cfbff8e02fab85a7f36900ee731b6e44690d7bbc5e00e524322426c9b31", func := "narrator/narratorlaw29.AssignmentTranspose", spec := "assignmentTranspose", unfollowed := true, recurses := true, apart := false, narrowed := true }
def AssignmentTransposeUptoSaid : Prop := assignmentTransposeUptoRow.holds Try.pinned (OpenSpec.upto assignmentTransposeSpec)

/-- 'narratorlaw29.AssignmentLeast', WHERE WHAT IT READS IS OF BULK AT MOST 1048576: true; the input reads as it did. -/
def assignmentLeastUptoRow : OpenClaim := { program := "ytnekhlklflgodaa", sum := "03559cfbff8e02fab85a7f36900ee731b6e44690d7bbc5e00e524322426c9b31", func := "narrator/narratorlaw29.AssignmentLeast", spec := "assignmentLeast", unfollowed := true, recurses := true, apart := false, narrowed := true }
def AssignmentLeastUptoSaid : Prop := assignmentLeastUptoRow.holds Try.pinned (OpenSpec.upto assignmentLeastSpec)

/-- 'narratorlaw29.AssignmentDiagonal', WHERE WHAT IT READS IS OF BULK AT MOST 1048576: true; the input reads as it did. -/
def assignmentDiagonalUptoRow : OpenClaim := { program := "ytnekhlklflgodaa", sum := "03559cfbff8e02fab85a7f36900ee731b6e44690d7bbc5e00e524322426c9b31", func := "narrator/narratorlaw29.AssignmentDiagonal", spec := "assignmentDiagonal", unfollowed := true, recurses := true, apart := false, narrowed := true }
def AssignmentDiagonalUptoSaid : Prop := assignmentDiagonalUptoRow.holds Try.pinned (OpenSpec.upto assignmentDiagonalSpec)

/-- 'narratorlaw29.AssignmentOptimal', WHERE WHAT IT READS IS OF BULK AT MOST 1048576: true; the input reads as it did. -/
def assignmentOptimalUptoRow : OpenClaim := { program := "ytnekhlklflgodaa", sum := "03559cfbff8e02fab85a7f36900ee731b6e44690d7bbc5e00e524322426c9b31", func := "narrator/narratorlaw29.AssignmentOptimal", spec := "assignmentOptimal", unfollowed := true, recurses := true, apart := false, narrowed := true }
def AssignmentOptimalUptoSaid : Prop := assignmentOptimalUptoRow.holds Try.pinned (OpenSpec.upto assignmentOptimalSpec)

end Rows
end Go.Proofs.Ytnekhlklflgodaa
