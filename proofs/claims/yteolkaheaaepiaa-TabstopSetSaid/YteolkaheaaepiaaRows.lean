/-
  No cell of these rows narrows 'for every input' (looked for: loops, veiled, ifaces, maps, wideKeys, modest, calm, conditions, laid).
  DERIVED. THE GIVEN ROWS OF THIS SEAT. 7 by the template 'for every input the law returns true; each argument reads behind the call as it read before'; 0 by the template 'total and deterministic' (their statements: YteolkaheaaepiaaTotals.lean).
  GIVEN WITH THE SEED: the statements are not yours to turn. If you find one false, say at which input.
  Laid BY PROGRAM, IN A SANDBOX (cutbox-rows.mjs): the forced cells as the released guide's own fill.sh prints them over the translation 8d7e9f6573997725… (all of the seat's roots in one cut). By AI agents, Wed Nov 11 2026. No macro, syntax, notation, axiom, sorry.
-/
import Derived.Test.YteolkaheaaepiaaChecked
import GoSem.Claim
import GoSem.ClaimJoined
import GoSem.ClaimMapViews
import Derived.JoinedTies
import Derived.KernelRfl
namespace Go.Proofs.Yteolkaheaaepiaa
/- THE CELL 'sum', in the pinned program and in every row, IS THE sha256 OF THE DUMP (.gsa) THAT YteolkaheaaepiaaProg.lean LOADS. Nothing in Lean hashes anything: it is a label: what it is worth is what the hold of that sum in a sandbox is worth. -/
noncomputable def Try.pinned : Pinned := { name := "yteolkaheaaepiaa", sum := "8d7e9f657399772532a5aba2c55f4df1e3c54bc5978b2ef44a79633e19eb9a39", checked := Try.checked }
namespace Rows
def none {H : Type} : Left H := { results := [], args := [] }

/-- 'narratorlaw09.TabstopMoves': WHATEVER THE INPUT: true; the input reads as it did. -/
def tabstopMovesSpec : ChangeSpec := { name := "tabstopMoves", fn := fun _ => fun
  | [d1, d2] => { results := [.lit (.bool true)], args := [d1, d2] }
  | _ => none }
def tabstopMovesRow : OpenClaim := { program := "yteolkaheaaepiaa", sum := "8d7e9f657399772532a5aba2c55f4df1e3c54bc5978b2ef44a79633e19eb9a39", func := "narrator/narratorlaw09.TabstopMoves", spec := "tabstopMoves", apart := false }
def TabstopMovesSaid : Prop := tabstopMovesRow.holds Try.pinned (OpenSpec.ofChange tabstopMovesSpec)

/-- ITS FALSE NEIGHBOUR: 'it returns false'. Refute it at one input. -/
def tabstopMovesWrong : ChangeSpec := { name := "tabstopMoves", fn := fun _ => fun
  | [d1, d2] => { results := [.lit (.bool false)], args := [d1, d2] }
  | _ => none }
def TabstopMovesWrongFalsely : Prop := tabstopMovesRow.holds Try.pinned (OpenSpec.ofChange tabstopMovesWrong)

/-- 'narratorlaw09.TabstopForward': WHATEVER THE INPUT: true; the input reads as it did. -/
def tabstopForwardSpec : ChangeSpec := { name := "tabstopForward", fn := fun _ => fun
  | [d1, d2] => { results := [.lit (.bool true)], args := [d1, d2] }
  | _ => none }
def tabstopForwardRow : OpenClaim := { program := "yteolkaheaaepiaa", sum := "8d7e9f657399772532a5aba2c55f4df1e3c54bc5978b2ef44a79633e19eb9a39", func := "narrator/narratorlaw09.TabstopForward", spec := "tabstopForward", apart := false }
def TabstopForwardSaid : Prop := tabstopForwardRow.holds Try.pinned (OpenSpec.ofChange tabstopForwardSpec)

/-- ITS FALSE NEIGHBOUR: 'it returns false'. Refute it at one input. -/
def tabstopForwardWrong : ChangeSpec := { name := "tabstopForward", fn := fun _ => fun
  | [d1, d2] => { results := [.lit (.bool false)], args := [d1, d2] }
  | _ => none }
def TabstopForwardWrongFalsely : Prop := tabstopForwardRow.holds Try.pinned (OpenSpec.ofChange tabstopForwardWrong)

/-- 'narratorlaw09.TabstopBackward': WHATEVER THE INPUT: true; the input reads as it did. -/
def tabstopBackwardSpec : ChangeSpec := { name := "tabstopBackward", fn := fun _ => fun
  | [d1, d2] => { results := [.lit (.bool true)], args := [d1, d2] }
  | _ => none }
def tabstopBackwardRow : OpenClaim := { program := "yteolkaheaaepiaa", sum := "8d7e9f657399772532a5aba2c55f4df1e3c54bc5978b2ef44a79633e19eb9a39", func := "narrator/narratorlaw09.TabstopBackward", spec := "tabstopBackward", apart := false }
def TabstopBackwardSaid : Prop := tabstopBackwardRow.holds Try.pinned (OpenSpec.ofChange tabstopBackwardSpec)

/-- ITS FALSE NEIGHBOUR: 'it returns false'. Refute it at one input. -/
def tabstopBackwardWrong : ChangeSpec := { name := "tabstopBackward", fn := fun _ => fun
  | [d1, d2] => { results := [.lit (.bool false)], args := [d1, d2] }
  | _ => none }
def TabstopBackwardWrongFalsely : Prop := tabstopBackwardRow.holds Try.pinned (OpenSpec.ofChange tabstopBackwardWrong)

/-- 'narratorlaw09.TabstopInverse': WHATEVER THE INPUT: true; the input reads as it did. -/
def tabstopInverseSpec : ChangeSpec := { name := "tabstopInverse", fn := fun _ => fun
  | [d1, d2] => { results := [.lit (.bool true)], args := [d1, d2] }
  | _ => none }
def tabstopInverseRow : OpenClaim := { program := "yteolkaheaaepiaa", sum := "8d7e9f657399772532a5aba2c55f4df1e3c54bc5978b2ef44a79633e19eb9a39", func := "narrator/narratorlaw09.TabstopInverse", spec := "tabstopInverse", apart := false }
def TabstopInverseSaid : Prop := tabstopInverseRow.holds Try.pinned (OpenSpec.ofChange tabstopInverseSpec)

/-- ITS FALSE NEIGHBOUR: 'it returns false'. Refute it at one input. -/
def tabstopInverseWrong : ChangeSpec := { name := "tabstopInverse", fn := fun _ => fun
  | [d1, d2] => { results := [.lit (.bool false)], args := [d1, d2] }
  | _ => none }
def TabstopInverseWrongFalsely : Prop := tabstopInverseRow.holds Try.pinned (OpenSpec.ofChange tabstopInverseWrong)

/-- 'narratorlaw09.TabstopResize': WHATEVER THE INPUT: true; the input reads as it did. -/
def tabstopResizeSpec : ChangeSpec := { name := "tabstopResize", fn := fun _ => fun
  | [d1, d2] => { results := [.lit (.bool true)], args := [d1, d2] }
  | _ => none }
def tabstopResizeRow : OpenClaim := { program := "yteolkaheaaepiaa", sum := "8d7e9f657399772532a5aba2c55f4df1e3c54bc5978b2ef44a79633e19eb9a39", func := "narrator/narratorlaw09.TabstopResize", spec := "tabstopResize", apart := false }
def TabstopResizeSaid : Prop := tabstopResizeRow.holds Try.pinned (OpenSpec.ofChange tabstopResizeSpec)

/-- ITS FALSE NEIGHBOUR: 'it returns false'. Refute it at one input. -/
def tabstopResizeWrong : ChangeSpec := { name := "tabstopResize", fn := fun _ => fun
  | [d1, d2] => { results := [.lit (.bool false)], args := [d1, d2] }
  | _ => none }
def TabstopResizeWrongFalsely : Prop := tabstopResizeRow.holds Try.pinned (OpenSpec.ofChange tabstopResizeWrong)

/-- 'narratorlaw09.TabstopSet': WHATEVER THE INPUT: true; the input reads as it did. -/
def tabstopSetSpec : ChangeSpec := { name := "tabstopSet", fn := fun _ => fun
  | [d1, d2, d3] => { results := [.lit (.bool true)], args := [d1, d2, d3] }
  | _ => none }
def tabstopSetRow : OpenClaim := { program := "yteolkaheaaepiaa", sum := "8d7e9f657399772532a5aba2c55f4df1e3c54bc5978b2ef44a79633e19eb9a39", func := "narrator/narratorlaw09.TabstopSet", spec := "tabstopSet", apart := false }
def TabstopSetSaid : Prop := tabstopSetRow.holds Try.pinned (OpenSpec.ofChange tabstopSetSpec)

/-- ITS FALSE NEIGHBOUR: 'it returns false'. Refute it at one input. -/
def tabstopSetWrong : ChangeSpec := { name := "tabstopSet", fn := fun _ => fun
  | [d1, d2, d3] => { results := [.lit (.bool false)], args := [d1, d2, d3] }
  | _ => none }
def TabstopSetWrongFalsely : Prop := tabstopSetRow.holds Try.pinned (OpenSpec.ofChange tabstopSetWrong)

/-- 'narratorlaw09.TabstopEdits': WHATEVER THE INPUT: true; the input reads as it did. -/
def tabstopEditsSpec : ChangeSpec := { name := "tabstopEdits", fn := fun _ => fun
  | [d] => { results := [.lit (.bool true)], args := [d] }
  | _ => none }
def tabstopEditsRow : OpenClaim := { program := "yteolkaheaaepiaa", sum := "8d7e9f657399772532a5aba2c55f4df1e3c54bc5978b2ef44a79633e19eb9a39", func := "narrator/narratorlaw09.TabstopEdits", spec := "tabstopEdits", apart := false }
def TabstopEditsSaid : Prop := tabstopEditsRow.holds Try.pinned (OpenSpec.ofChange tabstopEditsSpec)

/-- ITS FALSE NEIGHBOUR: 'it returns false'. Refute it at one input. -/
def tabstopEditsWrong : ChangeSpec := { name := "tabstopEdits", fn := fun _ => fun
  | [d] => { results := [.lit (.bool false)], args := [d] }
  | _ => none }
def TabstopEditsWrongFalsely : Prop := tabstopEditsRow.holds Try.pinned (OpenSpec.ofChange tabstopEditsWrong)

/- THE SECOND FORM. 'bulk': how many values and letters a reading holds, each counted each time it is reached (what is shared counts as often as it is met; a slice's spare places count too). A statement '..UptoSaid' is the law's where the arguments, and the package variables that the reading takes, are together of bulk at most 1048576: NARROWER than '..Said'. Prove '..Said' where nothing that the law and all that it calls make is longer than what came in: it says more and counts as full. Else prove '..UptoSaid'. A law counts once. -/
mutual
def uptoBulk {H : Type} : DataW H → Nat
  | .lit (.string bytes) => bytes.length + 1
  | .lit _ => 1
  | .nil => 1
  | .ptr d => uptoBulk d + 1
  | .slice elems spare => uptoBulkAll elems + uptoBulkAll spare + 1
  | .agg parts => uptoBulkAll parts + 1
  | .iface _ d => uptoBulk d + 1
  | .map entries => uptoBulkEntries entries + 1
  | .held _ => 1
def uptoBulkAll {H : Type} : List (DataW H) → Nat
  | [] => 0
  | d :: r => uptoBulk d + uptoBulkAll r
def uptoBulkEntries {H : Type} : List (Lit × DataW H) → Nat
  | [] => 0
  | x :: r => uptoBulkEntry x + uptoBulkEntries r
def uptoBulkEntry {H : Type} : Lit × DataW H → Nat
  | (.string bytes, d) => bytes.length + uptoBulk d + 1
  | (_, d) => uptoBulk d + 1
 end
def uptoSmall : (H : Type) → List (DataW H) → Bool := fun _ ds => decide (uptoBulkAll ds ≤ 1048576)
def OpenSpec.upto (s : _root_.Go.ChangeSpec) : _root_.Go.OpenSpec := { _root_.Go.OpenSpec.ofChange s with cond := some uptoSmall }

/-- 'narratorlaw09.TabstopMoves', WHERE WHAT IT READS IS OF BULK AT MOST 1048576: true; the input reads as it did. -/
def tabstopMovesUptoRow : OpenClaim := { program := "yteolkaheaaepiaa", sum := "8d7e9f657399772532a5aba2c55f4df1e3c54bc5978b2ef44a79633e19eb9a39", func := "narrator/narratorlaw09.TabstopMoves", spec := "tabstopMoves", apart := false, narrowed := true }
def TabstopMovesUptoSaid : Prop := tabstopMovesUptoRow.holds Try.pinned (OpenSpec.upto tabstopMovesSpec)

/-- 'narratorlaw09.TabstopForward', WHERE WHAT IT READS IS OF BULK AT MOST 1048576: true; the input reads as it did. -/
def tabstopForwardUptoRow : OpenClaim := { program := "yteolkaheaaepiaa", sum := "8d7e9f657399772532a5aba2c55f4df1e3c54bc5978b2ef44a79633e19eb9a39", func := "narrator/narratorlaw09.TabstopForward", spec := "tabstopForward", apart := false, narrowed := true }
def TabstopForwardUptoSaid : Prop := tabstopForwardUptoRow.holds Try.pinned (OpenSpec.upto tabstopForwardSpec)

/-- 'narratorlaw09.TabstopBackward', WHERE WHAT IT READS IS OF BULK AT MOST 1048576: true; the input reads as it did. -/
def tabstopBackwardUptoRow : OpenClaim := { program := "yteolkaheaaepiaa", sum := "8d7e9f657399772532a5aba2c55f4df1e3c54bc5978b2ef44a79633e19eb9a39", func := "narrator/narratorlaw09.TabstopBackward", spec := "tabstopBackward", apart := false, narrowed := true }
def TabstopBackwardUptoSaid : Prop := tabstopBackwardUptoRow.holds Try.pinned (OpenSpec.upto tabstopBackwardSpec)

/-- 'narratorlaw09.TabstopInverse', WHERE WHAT IT READS IS OF BULK AT MOST 1048576: true; the input reads as it did. -/
def tabstopInverseUptoRow : OpenClaim := { program := "yteolkaheaaepiaa", sum := "8d7e9f657399772532a5aba2c55f4df1e3c54bc5978b2ef44a79633e19eb9a39", func := "narrator/narratorlaw09.TabstopInverse", spec := "tabstopInverse", apart := false, narrowed := true }
def TabstopInverseUptoSaid : Prop := tabstopInverseUptoRow.holds Try.pinned (OpenSpec.upto tabstopInverseSpec)

/-- 'narratorlaw09.TabstopResize', WHERE WHAT IT READS IS OF BULK AT MOST 1048576: true; the input reads as it did. -/
def tabstopResizeUptoRow : OpenClaim := { program := "yteolkaheaaepiaa", sum := "8d7e9f657399772532a5aba2c55f4df1e3c54bc5978b2ef44a79633e19eb9a39", func := "narrator/narratorlaw09.TabstopResize", spec := "tabstopResize", apart := false, narrowed := true }
def TabstopResizeUptoSaid : Prop := tabstopResizeUptoRow.holds Try.pinned (OpenSpec.upto tabstopResizeSpec)

/-- 'narratorlaw09.TabstopSet', WHERE WHAT IT READS IS OF BULK AT MOST 1048576: true; the input reads as it did. -/
def tabstopSetUptoRow : OpenClaim := { program := "yteolkaheaaepiaa", sum := "8d7e9f657399772532a5aba2c55f4df1e3c54bc5978b2ef44a79633e19eb9a39", func := "narrator/narratorlaw09.TabstopSet", spec := "tabstopSet", apart := false, narrowed := true }
def TabstopSetUptoSaid : Prop := tabstopSetUptoRow.holds Try.pinned (OpenSpec.upto tabstopSetSpec)

/-- 'narratorlaw09.TabstopEdits', WHERE WHAT IT READS IS OF BULK AT MOST 1048576: true; the input reads as it did. -/
def tabstopEditsUptoRow : OpenClaim := { program := "yteolkaheaaepiaa", sum := "8d7e9f657399772532a5aba2c55f4df1e3c54bc5978b2ef44a79633e19eb9a39", func := "narrator/narratorlaw09.TabstopEdits", spec := "tabstopEdits", apart := false, narrowed := true }
def TabstopEditsUptoSaid : Prop := tabstopEditsUptoRow.holds Try.pinned (OpenSpec.upto tabstopEditsSpec)

end Rows
end Go.Proofs.Yteolkaheaaepiaa
