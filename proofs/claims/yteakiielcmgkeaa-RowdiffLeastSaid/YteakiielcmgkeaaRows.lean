/-
  No cell of these rows narrows 'for every input' (looked for: loops, veiled, ifaces, maps, wideKeys, modest, calm, conditions, laid).
  DERIVED. THE GIVEN ROWS OF THIS SEAT. 8 by the template 'for every input the law returns true; each argument reads behind the call as it read before'; 0 by the template 'total and deterministic' (their statements: YteakiielcmgkeaaTotals.lean).
  GIVEN WITH THE SEED: the statements are not yours to turn. If you find one false, say at which input.
  Laid BY PROGRAM, IN A SANDBOX (cutbox-rows.mjs): the forced cells as the released guide's own fill.sh prints them over the translation bdc57e733412b40c… (all of the seat's roots in one cut). By AI agents, Wed Nov 11 2026. No macro, syntax, notation, axiom, sorry.
-/
import Derived.Test.YteakiielcmgkeaaChecked
import GoSem.Claim
import GoSem.ClaimJoined
import GoSem.ClaimMapViews
import Derived.JoinedTies
import Derived.KernelRfl
namespace Go.Proofs.Yteakiielcmgkeaa
/- THE CELL 'sum', in the pinned program and in every row, IS THE sha256 OF THE DUMP (.gsa) THAT YteakiielcmgkeaaProg.lean LOADS. Nothing in Lean hashes anything: it is a label: what it is worth is what the hold of that sum in a sandbox is worth. -/
noncomputable def Try.pinned : Pinned := { name := "yteakiielcmgkeaa", sum := "bdc57e733412b40cd6a9932a159da90b1a23e50386e78b3f237fa9275e8d6cc0", checked := Try.checked }
namespace Rows
def none {H : Type} : Left H := { results := [], args := [] }

/-- 'narratorlaw17.RowdiffSplices': WHATEVER THE INPUT: true; the input reads as it did. -/
def rowdiffSplicesSpec : ChangeSpec := { name := "rowdiffSplices", fn := fun _ => fun
  | [d1, d2, d3] => { results := [.lit (.bool true)], args := [d1, d2, d3] }
  | _ => none }
def rowdiffSplicesRow : OpenClaim := { program := "yteakiielcmgkeaa", sum := "bdc57e733412b40cd6a9932a159da90b1a23e50386e78b3f237fa9275e8d6cc0", func := "narrator/narratorlaw17.RowdiffSplices", spec := "rowdiffSplices", unfollowed := true, recurses := true, apart := false }
def RowdiffSplicesSaid : Prop := rowdiffSplicesRow.holds Try.pinned (OpenSpec.ofChange rowdiffSplicesSpec)

/-- ITS FALSE NEIGHBOUR: 'it returns false'. Refute it at one input. -/
def rowdiffSplicesWrong : ChangeSpec := { name := "rowdiffSplices", fn := fun _ => fun
  | [d1, d2, d3] => { results := [.lit (.bool false)], args := [d1, d2, d3] }
  | _ => none }
def RowdiffSplicesWrongFalsely : Prop := rowdiffSplicesRow.holds Try.pinned (OpenSpec.ofChange rowdiffSplicesWrong)

/-- 'narratorlaw17.RowdiffEqual': WHATEVER THE INPUT: true; the input reads as it did. -/
def rowdiffEqualSpec : ChangeSpec := { name := "rowdiffEqual", fn := fun _ => fun
  | [d1, d2, d3] => { results := [.lit (.bool true)], args := [d1, d2, d3] }
  | _ => none }
def rowdiffEqualRow : OpenClaim := { program := "yteakiielcmgkeaa", sum := "bdc57e733412b40cd6a9932a159da90b1a23e50386e78b3f237fa9275e8d6cc0", func := "narrator/narratorlaw17.RowdiffEqual", spec := "rowdiffEqual", unfollowed := true, recurses := true, apart := false }
def RowdiffEqualSaid : Prop := rowdiffEqualRow.holds Try.pinned (OpenSpec.ofChange rowdiffEqualSpec)

/-- ITS FALSE NEIGHBOUR: 'it returns false'. Refute it at one input. -/
def rowdiffEqualWrong : ChangeSpec := { name := "rowdiffEqual", fn := fun _ => fun
  | [d1, d2, d3] => { results := [.lit (.bool false)], args := [d1, d2, d3] }
  | _ => none }
def RowdiffEqualWrongFalsely : Prop := rowdiffEqualRow.holds Try.pinned (OpenSpec.ofChange rowdiffEqualWrong)

/-- 'narratorlaw17.RowdiffAppend': WHATEVER THE INPUT: true; the input reads as it did. -/
def rowdiffAppendSpec : ChangeSpec := { name := "rowdiffAppend", fn := fun _ => fun
  | [d1, d2] => { results := [.lit (.bool true)], args := [d1, d2] }
  | _ => none }
def rowdiffAppendRow : OpenClaim := { program := "yteakiielcmgkeaa", sum := "bdc57e733412b40cd6a9932a159da90b1a23e50386e78b3f237fa9275e8d6cc0", func := "narrator/narratorlaw17.RowdiffAppend", spec := "rowdiffAppend", unfollowed := true, recurses := true, apart := false }
def RowdiffAppendSaid : Prop := rowdiffAppendRow.holds Try.pinned (OpenSpec.ofChange rowdiffAppendSpec)

/-- ITS FALSE NEIGHBOUR: 'it returns false'. Refute it at one input. -/
def rowdiffAppendWrong : ChangeSpec := { name := "rowdiffAppend", fn := fun _ => fun
  | [d1, d2] => { results := [.lit (.bool false)], args := [d1, d2] }
  | _ => none }
def RowdiffAppendWrongFalsely : Prop := rowdiffAppendRow.holds Try.pinned (OpenSpec.ofChange rowdiffAppendWrong)

/-- 'narratorlaw17.RowdiffPrefix': WHATEVER THE INPUT: true; the input reads as it did. -/
def rowdiffPrefixSpec : ChangeSpec := { name := "rowdiffPrefix", fn := fun _ => fun
  | [d1, d2, d3] => { results := [.lit (.bool true)], args := [d1, d2, d3] }
  | _ => none }
def rowdiffPrefixRow : OpenClaim := { program := "yteakiielcmgkeaa", sum := "bdc57e733412b40cd6a9932a159da90b1a23e50386e78b3f237fa9275e8d6cc0", func := "narrator/narratorlaw17.RowdiffPrefix", spec := "rowdiffPrefix", unfollowed := true, recurses := true, apart := false }
def RowdiffPrefixSaid : Prop := rowdiffPrefixRow.holds Try.pinned (OpenSpec.ofChange rowdiffPrefixSpec)

/-- ITS FALSE NEIGHBOUR: 'it returns false'. Refute it at one input. -/
def rowdiffPrefixWrong : ChangeSpec := { name := "rowdiffPrefix", fn := fun _ => fun
  | [d1, d2, d3] => { results := [.lit (.bool false)], args := [d1, d2, d3] }
  | _ => none }
def RowdiffPrefixWrongFalsely : Prop := rowdiffPrefixRow.holds Try.pinned (OpenSpec.ofChange rowdiffPrefixWrong)

/-- 'narratorlaw17.RowdiffLeast': WHATEVER THE INPUT: true; the input reads as it did. -/
def rowdiffLeastSpec : ChangeSpec := { name := "rowdiffLeast", fn := fun _ => fun
  | [d1, d2] => { results := [.lit (.bool true)], args := [d1, d2] }
  | _ => none }
def rowdiffLeastRow : OpenClaim := { program := "yteakiielcmgkeaa", sum := "bdc57e733412b40cd6a9932a159da90b1a23e50386e78b3f237fa9275e8d6cc0", func := "narrator/narratorlaw17.RowdiffLeast", spec := "rowdiffLeast", unfollowed := true, recurses := true, apart := false }
def RowdiffLeastSaid : Prop := rowdiffLeastRow.holds Try.pinned (OpenSpec.ofChange rowdiffLeastSpec)

/-- ITS FALSE NEIGHBOUR: 'it returns false'. Refute it at one input. -/
def rowdiffLeastWrong : ChangeSpec := { name := "rowdiffLeast", fn := fun _ => fun
  | [d1, d2] => { results := [.lit (.bool false)], args := [d1, d2] }
  | _ => none }
def RowdiffLeastWrongFalsely : Prop := rowdiffLeastRow.holds Try.pinned (OpenSpec.ofChange rowdiffLeastWrong)

/-- 'narratorlaw17.RowdiffApply': WHATEVER THE INPUT: true; the input reads as it did. -/
def rowdiffApplySpec : ChangeSpec := { name := "rowdiffApply", fn := fun _ => fun
  | [d1, d2] => { results := [.lit (.bool true)], args := [d1, d2] }
  | _ => none }
def rowdiffApplyRow : OpenClaim := { program := "yteakiielcmgkeaa", sum := "bdc57e733412b40cd6a9932a159da90b1a23e50386e78b3f237fa9275e8d6cc0", func := "narrator/narratorlaw17.RowdiffApply", spec := "rowdiffApply", unfollowed := true, recurses := true, apart := false }
def RowdiffApplySaid : Prop := rowdiffApplyRow.holds Try.pinned (OpenSpec.ofChange rowdiffApplySpec)

/-- ITS FALSE NEIGHBOUR: 'it returns false'. Refute it at one input. -/
def rowdiffApplyWrong : ChangeSpec := { name := "rowdiffApply", fn := fun _ => fun
  | [d1, d2] => { results := [.lit (.bool false)], args := [d1, d2] }
  | _ => none }
def RowdiffApplyWrongFalsely : Prop := rowdiffApplyRow.holds Try.pinned (OpenSpec.ofChange rowdiffApplyWrong)

/-- 'narratorlaw17.RowdiffRoundTrip': WHATEVER THE INPUT: true; the input reads as it did. -/
def rowdiffRoundTripSpec : ChangeSpec := { name := "rowdiffRoundTrip", fn := fun _ => fun
  | [d1, d2] => { results := [.lit (.bool true)], args := [d1, d2] }
  | _ => none }
def rowdiffRoundTripRow : OpenClaim := { program := "yteakiielcmgkeaa", sum := "bdc57e733412b40cd6a9932a159da90b1a23e50386e78b3f237fa9275e8d6cc0", func := "narrator/narratorlaw17.RowdiffRoundTrip", spec := "rowdiffRoundTrip", unfollowed := true, recurses := true, apart := false }
def RowdiffRoundTripSaid : Prop := rowdiffRoundTripRow.holds Try.pinned (OpenSpec.ofChange rowdiffRoundTripSpec)

/-- ITS FALSE NEIGHBOUR: 'it returns false'. Refute it at one input. -/
def rowdiffRoundTripWrong : ChangeSpec := { name := "rowdiffRoundTrip", fn := fun _ => fun
  | [d1, d2] => { results := [.lit (.bool false)], args := [d1, d2] }
  | _ => none }
def RowdiffRoundTripWrongFalsely : Prop := rowdiffRoundTripRow.holds Try.pinned (OpenSpec.ofChange rowdiffRoundTripWrong)

/-- 'narratorlaw17.RowdiffBeyond': WHATEVER THE INPUT: true; the input reads as it did. -/
def rowdiffBeyondSpec : ChangeSpec := { name := "rowdiffBeyond", fn := fun _ => fun
  | [d1, d2, d3] => { results := [.lit (.bool true)], args := [d1, d2, d3] }
  | _ => none }
def rowdiffBeyondRow : OpenClaim := { program := "yteakiielcmgkeaa", sum := "bdc57e733412b40cd6a9932a159da90b1a23e50386e78b3f237fa9275e8d6cc0", func := "narrator/narratorlaw17.RowdiffBeyond", spec := "rowdiffBeyond", unfollowed := true, recurses := true, apart := false }
def RowdiffBeyondSaid : Prop := rowdiffBeyondRow.holds Try.pinned (OpenSpec.ofChange rowdiffBeyondSpec)

/-- ITS FALSE NEIGHBOUR: 'it returns false'. Refute it at one input. -/
def rowdiffBeyondWrong : ChangeSpec := { name := "rowdiffBeyond", fn := fun _ => fun
  | [d1, d2, d3] => { results := [.lit (.bool false)], args := [d1, d2, d3] }
  | _ => none }
def RowdiffBeyondWrongFalsely : Prop := rowdiffBeyondRow.holds Try.pinned (OpenSpec.ofChange rowdiffBeyondWrong)

/- THE SECOND FORM. 'bulk': how many values and letters a reading holds, each counted each time it is reached (what is shared counts as often as it is met; a slice's spare places count too). A statement '..UptoSaid' is the law's where the arguments, and the package variables that the reading takes, are together of bulk at most 1048576: NARROWER than '..Said'. Prove '..Said' where nothing that the law and all that it calls make is longer than what came in: it says more and counts as full. Else prove '..UptoSaid'. A law counts once. -/
mutual
def uptoBulk {H : Type} : DataW H → Nat
  | .lit (.string bytes) => bytes.length + 1
  | .lit _ => 1
  | .nil => 1
  | .ptr d => uptoBulk d + 1
  | .slice elems spare => uptoBulkAll elems + uptoBulkAll spare + 1
  | .agg parts => uptoBulkAll parts + 1
  | .iface _ d => uptoBulk d + 1
  | .map entries => uptoBulkEntries entries + 1
  | .held _ => 1
def uptoBulkAll {H : Type} : List (DataW H) → Nat
  | [] => 0
  | d :: r => uptoBulk d + uptoBulkAll r
def uptoBulkEntries {H : Type} : List (Lit × DataW H) → Nat
  | [] => 0
  | x :: r => uptoBulkEntry x + uptoBulkEntries r
def uptoBulkEntry {H : Type} : Lit × DataW H → Nat
  | (.string bytes, d) => bytes.length + uptoBulk d + 1
  | (_, d) => uptoBulk d + 1
 end
def uptoSmall : (H : Type) → List (DataW H) → Bool := fun _ ds => decide (uptoBulkAll ds ≤ 1048576)
def OpenSpec.upto (s : _root_.Go.ChangeSpec) : _root_.Go.OpenSpec := { _root_.Go.OpenSpec.ofChange s with cond := some uptoSmall }

/-- 'narratorlaw17.RowdiffSplices', WHERE WHAT IT READS IS OF BULK AT MOST 1048576: true; the input reads as it did. -/
def rowdiffSplicesUptoRow : OpenClaim := { program := "yteakiielcmgkeaa", sum := "bdc57e733412b40cd6a9932a159da90b1a23e50386e78b3f237fa9275e8d6cc0", func := "narrator/narratorlaw17.RowdiffSplices", spec := "rowdiffSplices", unfollowed := true, recurses := true, apart := false, narrowed := true }
def RowdiffSplicesUptoSaid : Prop := rowdiffSplicesUptoRow.holds Try.pinned (OpenSpec.upto rowdiffSplicesSpec)

/-- 'narratorlaw17.RowdiffEqual', WHERE WHAT IT READS IS OF BULK AT MOST 1048576: true; the input reads as it did. -/
def rowdiffEqualUptoRow : OpenClaim := { program := "yteakiielcmgkeaa", sum := "bdc57e733412b40cd6a9932a159da90b1a23e50386e78b3f237fa9275e8d6cc0", func := "narrator/narratorlaw17.RowdiffEqual", spec := "rowdiffEqual", unfollowed := true, recurses := true, apart := false, narrowed := true }
def RowdiffEqualUptoSaid : Prop := rowdiffEqualUptoRow.holds Try.pinned (OpenSpec.upto rowdiffEqualSpec)

/-- 'narratorlaw17.RowdiffAppend', WHERE WHAT IT READS IS OF BULK AT MOST 1048576: true; the input reads as it did. -/
def rowdiffAppendUptoRow : OpenClaim := { program := "yteakiielcmgkeaa", sum := "bdc57e733412b40cd6a9932a159da90b1a23e50386e78b3f237fa9275e8d6cc0", func := "narrator/narratorlaw17.RowdiffAppend", spec := "rowdiffAppend", unfollowed := true, recurses := true, apart := false, narrowed := true }
def RowdiffAppendUptoSaid : Prop := rowdiffAppendUptoRow.holds Try.pinned (OpenSpec.upto rowdiffAppendSpec)

/-- 'narratorlaw17.RowdiffPrefix', WHERE WHAT IT READS IS OF BULK AT MOST 1048576: true; the input reads as it did. -/
def rowdiffPrefixUptoRow : OpenClaim := { program := "yteakiielcmgkeaa", sum := "bdc57e733412b40cd6a9932a159da90b1a23e50386e78b3f237fa9275e8d6cc0", func := "narrator/narratorlaw17.RowdiffPrefix", spec := "rowdiffPrefix", unfollowed := true, recurses := true, apart := false, narrowed := true }
def RowdiffPrefixUptoSaid : Prop := rowdiffPrefixUptoRow.holds Try.pinned (OpenSpec.upto rowdiffPrefixSpec)

/-- 'narratorlaw17.RowdiffLeast', WHERE WHAT IT READS IS OF BULK AT MOST 1048576: true; the input reads as it did. -/
def rowdiffLeastUptoRow : OpenClaim := { program := "yteakiielcmgkeaa", sum := "bdc57e733412b40cd6a9932a159da90b1a23e50386e78b3f237fa9275e8d6cc0", func := "narrator/narratorlaw17.RowdiffLeast", spec := "rowdiffLeast", unfollowed := true, recurses := true, apart := false, narrowed := true }
def RowdiffLeastUptoSaid : Prop := rowdiffLeastUptoRow.holds Try.pinned (OpenSpec.upto rowdiffLeastSpec)

/-- 'narratorlaw17.RowdiffApply', WHERE WHAT IT READS IS OF BULK AT MOST 1048576: true; the input reads as it did. -/
def rowdiffApplyUptoRow : OpenClaim := { program := "yteakiielcmgkeaa", sum := "bdc57e733412b40cd6a9932a159da90b1a23e50386e78b3f237fa9275e8d6cc0", func := "narrator/narratorlaw17.RowdiffApply", spec := "rowdiffApply", unfollowed := true, recurses := true, apart := false, narrowed := true }
def RowdiffApplyUptoSaid : Prop := rowdiffApplyUptoRow.holds Try.pinned (OpenSpec.upto rowdiffApplySpec)

/-- 'narratorlaw17.RowdiffRoundTrip', WHERE WHAT IT READS IS OF BULK AT MOST 1048576: true; the input reads as it did. -/
def rowdiffRoundTripUptoRow : OpenClaim := { program := "yteakiielcmgkeaa", sum := "bdc57e733412b40cd6a9932a159da90b1a23e50386e78b3f237fa9275e8d6cc0", func := "narrator/narratorlaw17.RowdiffRoundTrip", spec := "rowdiffRoundTrip", unfollowed := true, recurses := true, apart := false, narrowed := true }
def RowdiffRoundTripUptoSaid : Prop := rowdiffRoundTripUptoRow.holds Try.pinned (OpenSpec.upto rowdiffRoundTripSpec)

/-- 'narratorlaw17.RowdiffBeyond', WHERE WHAT IT READS IS OF BULK AT MOST 1048576: true; the input reads as it did. -/
def rowdiffBeyondUptoRow : OpenClaim := { program := "yteakiielcmgkeaa", sum := "bdc57e733412b40cd6a9932a159da90b1a23e50386e78b3f237fa9275e8d6cc0", func := "narrator/narratorlaw17.RowdiffBeyond", spec := "rowdiffBeyond", unfollowed := true, recurses := true, apart := false, narrowed := true }
def RowdiffBeyondUptoSaid : Prop := rowdiffBeyondUptoRow.holds Try.pinned (OpenSpec.upto rowdiffBeyondSpec)

end Rows
end Go.Proofs.Yteakiielcmgkeaa
