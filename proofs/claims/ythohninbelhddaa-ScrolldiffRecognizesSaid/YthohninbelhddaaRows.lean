/-
  No cell of these rows narrows 'for every input' (looked for: loops, veiled, ifaces, maps, wideKeys, modest, calm, conditions, laid).
  DERIVED. THE GIVEN ROWS OF THIS SEAT. 8 by the template 'for every input the law returns true; each argument reads behind the call as it read before'; 0 by the template 'total and deterministic' (their statements: YthohninbelhddaaTotals.lean).
  GIVEN WITH THE SEED: the statements are not yours to turn. If you find one false, say at which input.
  Laid BY PROGRAM, IN A SANDBOX (cutbox-rows.mjs): the forced cells as the released guide's own fill.sh prints them over the translation a28019543ff4460f… (all of the seat's roots in one cut). By AI agents, Wed Nov 11 2026. No macro, syntax, notation, axiom, sorry.
-/
import Derived.Test.YthohninbelhddaaChecked
import GoSem.Claim
import GoSem.ClaimJoined
import GoSem.ClaimMapViews
import Derived.JoinedTies
import Derived.KernelRfl
namespace Go.Proofs.Ythohninbelhddaa
/- THE CELL 'sum', in the pinned program and in every row, IS THE sha256 OF THE DUMP (.gsa) THAT YthohninbelhddaaProg.lean LOADS. Nothing in Lean hashes anything: it is a label: what it is worth is what the hold of that sum in a sandbox is worth. -/
noncomputable def Try.pinned : Pinned := { name := "ythohninbelhddaa", sum := "a28019543ff4460f205ec769a48913e0339bd815ffc36aab7b0d9813dd6d4290", checked := Try.checked }
namespace Rows
def none {H : Type} : Left H := { results := [], args := [] }

/-- 'narratorlaw18.ScrolldiffFind': WHATEVER THE INPUT: true; the input reads as it did. -/
def scrolldiffFindSpec : ChangeSpec := { name := "scrolldiffFind", fn := fun _ => fun
  | [d1, d2] => { results := [.lit (.bool true)], args := [d1, d2] }
  | _ => none }
def scrolldiffFindRow : OpenClaim := { program := "ythohninbelhddaa", sum := "a28019543ff4460f205ec769a48913e0339bd815ffc36aab7b0d9813dd6d4290", func := "narrator/narratorlaw18.ScrolldiffFind", spec := "scrolldiffFind", unfollowed := true, recurses := true, apart := false }
def ScrolldiffFindSaid : Prop := scrolldiffFindRow.holds Try.pinned (OpenSpec.ofChange scrolldiffFindSpec)

/-- ITS FALSE NEIGHBOUR: 'it returns false'. Refute it at one input. -/
def scrolldiffFindWrong : ChangeSpec := { name := "scrolldiffFind", fn := fun _ => fun
  | [d1, d2] => { results := [.lit (.bool false)], args := [d1, d2] }
  | _ => none }
def ScrolldiffFindWrongFalsely : Prop := scrolldiffFindRow.holds Try.pinned (OpenSpec.ofChange scrolldiffFindWrong)

/-- 'narratorlaw18.ScrolldiffBest': WHATEVER THE INPUT: true; the input reads as it did. -/
def scrolldiffBestSpec : ChangeSpec := { name := "scrolldiffBest", fn := fun _ => fun
  | [d1, d2] => { results := [.lit (.bool true)], args := [d1, d2] }
  | _ => none }
def scrolldiffBestRow : OpenClaim := { program := "ythohninbelhddaa", sum := "a28019543ff4460f205ec769a48913e0339bd815ffc36aab7b0d9813dd6d4290", func := "narrator/narratorlaw18.ScrolldiffBest", spec := "scrolldiffBest", unfollowed := true, recurses := true, apart := false }
def ScrolldiffBestSaid : Prop := scrolldiffBestRow.holds Try.pinned (OpenSpec.ofChange scrolldiffBestSpec)

/-- ITS FALSE NEIGHBOUR: 'it returns false'. Refute it at one input. -/
def scrolldiffBestWrong : ChangeSpec := { name := "scrolldiffBest", fn := fun _ => fun
  | [d1, d2] => { results := [.lit (.bool false)], args := [d1, d2] }
  | _ => none }
def ScrolldiffBestWrongFalsely : Prop := scrolldiffBestRow.holds Try.pinned (OpenSpec.ofChange scrolldiffBestWrong)

/-- 'narratorlaw18.ScrolldiffInverse': WHATEVER THE INPUT: true; the input reads as it did. -/
def scrolldiffInverseSpec : ChangeSpec := { name := "scrolldiffInverse", fn := fun _ => fun
  | [d1, d2, d3, d4, d5] => { results := [.lit (.bool true)], args := [d1, d2, d3, d4, d5] }
  | _ => none }
def scrolldiffInverseRow : OpenClaim := { program := "ythohninbelhddaa", sum := "a28019543ff4460f205ec769a48913e0339bd815ffc36aab7b0d9813dd6d4290", func := "narrator/narratorlaw18.ScrolldiffInverse", spec := "scrolldiffInverse", unfollowed := true, recurses := true, apart := false }
def ScrolldiffInverseSaid : Prop := scrolldiffInverseRow.holds Try.pinned (OpenSpec.ofChange scrolldiffInverseSpec)

/-- ITS FALSE NEIGHBOUR: 'it returns false'. Refute it at one input. -/
def scrolldiffInverseWrong : ChangeSpec := { name := "scrolldiffInverse", fn := fun _ => fun
  | [d1, d2, d3, d4, d5] => { results := [.lit (.bool false)], args := [d1, d2, d3, d4, d5] }
  | _ => none }
def ScrolldiffInverseWrongFalsely : Prop := scrolldiffInverseRow.holds Try.pinned (OpenSpec.ofChange scrolldiffInverseWrong)

/-- 'narratorlaw18.ScrolldiffEqual': WHATEVER THE INPUT: true; the input reads as it did. -/
def scrolldiffEqualSpec : ChangeSpec := { name := "scrolldiffEqual", fn := fun _ => fun
  | [d1, d2] => { results := [.lit (.bool true)], args := [d1, d2] }
  | _ => none }
def scrolldiffEqualRow : OpenClaim := { program := "ythohninbelhddaa", sum := "a28019543ff4460f205ec769a48913e0339bd815ffc36aab7b0d9813dd6d4290", func := "narrator/narratorlaw18.ScrolldiffEqual", spec := "scrolldiffEqual", unfollowed := true, recurses := true, apart := false }
def ScrolldiffEqualSaid : Prop := scrolldiffEqualRow.holds Try.pinned (OpenSpec.ofChange scrolldiffEqualSpec)

/-- ITS FALSE NEIGHBOUR: 'it returns false'. Refute it at one input. -/
def scrolldiffEqualWrong : ChangeSpec := { name := "scrolldiffEqual", fn := fun _ => fun
  | [d1, d2] => { results := [.lit (.bool false)], args := [d1, d2] }
  | _ => none }
def ScrolldiffEqualWrongFalsely : Prop := scrolldiffEqualRow.holds Try.pinned (OpenSpec.ofChange scrolldiffEqualWrong)

/-- 'narratorlaw18.ScrolldiffGain': WHATEVER THE INPUT: true; the input reads as it did. -/
def scrolldiffGainSpec : ChangeSpec := { name := "scrolldiffGain", fn := fun _ => fun
  | [d1, d2, d3, d4, d5] => { results := [.lit (.bool true)], args := [d1, d2, d3, d4, d5] }
  | _ => none }
def scrolldiffGainRow : OpenClaim := { program := "ythohninbelhddaa", sum := "a28019543ff4460f205ec769a48913e0339bd815ffc36aab7b0d9813dd6d4290", func := "narrator/narratorlaw18.ScrolldiffGain", spec := "scrolldiffGain", unfollowed := true, recurses := true, apart := false }
def ScrolldiffGainSaid : Prop := scrolldiffGainRow.holds Try.pinned (OpenSpec.ofChange scrolldiffGainSpec)

/-- ITS FALSE NEIGHBOUR: 'it returns false'. Refute it at one input. -/
def scrolldiffGainWrong : ChangeSpec := { name := "scrolldiffGain", fn := fun _ => fun
  | [d1, d2, d3, d4, d5] => { results := [.lit (.bool false)], args := [d1, d2, d3, d4, d5] }
  | _ => none }
def ScrolldiffGainWrongFalsely : Prop := scrolldiffGainRow.holds Try.pinned (OpenSpec.ofChange scrolldiffGainWrong)

/-- 'narratorlaw18.ScrolldiffBack': WHATEVER THE INPUT: true; the input reads as it did. -/
def scrolldiffBackSpec : ChangeSpec := { name := "scrolldiffBack", fn := fun _ => fun
  | [d1, d2, d3, d4] => { results := [.lit (.bool true)], args := [d1, d2, d3, d4] }
  | _ => none }
def scrolldiffBackRow : OpenClaim := { program := "ythohninbelhddaa", sum := "a28019543ff4460f205ec769a48913e0339bd815ffc36aab7b0d9813dd6d4290", func := "narrator/narratorlaw18.ScrolldiffBack", spec := "scrolldiffBack", unfollowed := true, recurses := true, apart := false }
def ScrolldiffBackSaid : Prop := scrolldiffBackRow.holds Try.pinned (OpenSpec.ofChange scrolldiffBackSpec)

/-- ITS FALSE NEIGHBOUR: 'it returns false'. Refute it at one input. -/
def scrolldiffBackWrong : ChangeSpec := { name := "scrolldiffBack", fn := fun _ => fun
  | [d1, d2, d3, d4] => { results := [.lit (.bool false)], args := [d1, d2, d3, d4] }
  | _ => none }
def ScrolldiffBackWrongFalsely : Prop := scrolldiffBackRow.holds Try.pinned (OpenSpec.ofChange scrolldiffBackWrong)

/-- 'narratorlaw18.ScrolldiffRecognizes': WHATEVER THE INPUT: true; the input reads as it did. -/
def scrolldiffRecognizesSpec : ChangeSpec := { name := "scrolldiffRecognizes", fn := fun _ => fun
  | [d1, d2, d3, d4] => { results := [.lit (.bool true)], args := [d1, d2, d3, d4] }
  | _ => none }
def scrolldiffRecognizesRow : OpenClaim := { program := "ythohninbelhddaa", sum := "a28019543ff4460f205ec769a48913e0339bd815ffc36aab7b0d9813dd6d4290", func := "narrator/narratorlaw18.ScrolldiffRecognizes", spec := "scrolldiffRecognizes", unfollowed := true, recurses := true, apart := false }
def ScrolldiffRecognizesSaid : Prop := scrolldiffRecognizesRow.holds Try.pinned (OpenSpec.ofChange scrolldiffRecognizesSpec)

/-- ITS FALSE NEIGHBOUR: 'it returns false'. Refute it at one input. -/
def scrolldiffRecognizesWrong : ChangeSpec := { name := "scrolldiffRecognizes", fn := fun _ => fun
  | [d1, d2, d3, d4] => { results := [.lit (.bool false)], args := [d1, d2, d3, d4] }
  | _ => none }
def ScrolldiffRecognizesWrongFalsely : Prop := scrolldiffRecognizesRow.holds Try.pinned (OpenSpec.ofChange scrolldiffRecognizesWrong)

/-- 'narratorlaw18.ScrolldiffKeeps': WHATEVER THE INPUT: true; the input reads as it did. -/
def scrolldiffKeepsSpec : ChangeSpec := { name := "scrolldiffKeeps", fn := fun _ => fun
  | [d1, d2, d3, d4] => { results := [.lit (.bool true)], args := [d1, d2, d3, d4] }
  | _ => none }
def scrolldiffKeepsRow : OpenClaim := { program := "ythohninbelhddaa", sum := "a28019543ff4460f205ec769a48913e0339bd815ffc36aab7b0d9813dd6d4290", func := "narrator/narratorlaw18.ScrolldiffKeeps", spec := "scrolldiffKeeps", unfollowed := true, recurses := true, apart := false }
def ScrolldiffKeepsSaid : Prop := scrolldiffKeepsRow.holds Try.pinned (OpenSpec.ofChange scrolldiffKeepsSpec)

/-- ITS FALSE NEIGHBOUR: 'it returns false'. Refute it at one input. -/
def scrolldiffKeepsWrong : ChangeSpec := { name := "scrolldiffKeeps", fn := fun _ => fun
  | [d1, d2, d3, d4] => { results := [.lit (.bool false)], args := [d1, d2, d3, d4] }
  | _ => none }
def ScrolldiffKeepsWrongFalsely : Prop := scrolldiffKeepsRow.holds Try.pinned (OpenSpec.ofChange scrolldiffKeepsWrong)

/- THE SECOND FORM. 'bulk': how many values and letters a reading holds, each counted each time it is reached (what is shared counts as often as it is met; a slice's spare places count too). A statement '..UptoSaid' is the law's where the arguments, and the package variables that the reading takes, are together of bulk at most 1048576: NARROWER than '..Said'. Prove '..Said' where nothing that the law and all that it calls make is longer than what came in: it says more and counts as full. Else prove '..UptoSaid'. A law counts once. -/
mutual
def uptoBulk {H : Type} : DataW H → Nat
  | .lit (.string bytes) => bytes.length + 1
  | .lit _ => 1
  | .nil => 1
  | .ptr d => uptoBulk d + 1
  | .slice elems spare => uptoBulkAll elems + uptoBulkAll spare + 1
  | .agg parts => uptoBulkAll parts + 1
  | .iface _ d => uptoBulk d + 1
  | .map entries => uptoBulkEntries entries + 1
  | .held _ => 1
def uptoBulkAll {H : Type} : List (DataW H) → Nat
  | [] => 0
  | d :: r => uptoBulk d + uptoBulkAll r
def uptoBulkEntries {H : Type} : List (Lit × DataW H) → Nat
  | [] => 0
  | x :: r => uptoBulkEntry x + uptoBulkEntries r
def uptoBulkEntry {H : Type} : Lit × DataW H → Nat
  | (.string bytes, d) => bytes.length + uptoBulk d + 1
  | (_, d) => uptoBulk d + 1
 end
def uptoSmall : (H : Type) → List (DataW H) → Bool := fun _ ds => decide (uptoBulkAll ds ≤ 1048576)
def OpenSpec.upto (s : _root_.Go.ChangeSpec) : _root_.Go.OpenSpec := { _root_.Go.OpenSpec.ofChange s with cond := some uptoSmall }

/-- 'narratorlaw18.ScrolldiffFind', WHERE WHAT IT READS IS OF BULK AT MOST 1048576: true; the input reads as it did. -/
def scrolldiffFindUptoRow : OpenClaim := { program := "ythohninbelhddaa", sum := "a28019543ff4460f205ec769a48913e0339bd815ffc36aab7b0d9813dd6d4290", func := "narrator/narratorlaw18.ScrolldiffFind", spec := "scrolldiffFind", unfollowed := true, recurses := true, apart := false, narrowed := true }
def ScrolldiffFindUptoSaid : Prop := scrolldiffFindUptoRow.holds Try.pinned (OpenSpec.upto scrolldiffFindSpec)

/-- 'narratorlaw18.ScrolldiffBest', WHERE WHAT IT READS IS OF BULK AT MOST 1048576: true; the input reads as it did. -/
def scrolldiffBestUptoRow : OpenClaim := { program := "ythohninbelhddaa", sum := "a28019543ff4460f205ec769a48913e0339bd815ffc36aab7b0d9813dd6d4290", func := "narrator/narratorlaw18.ScrolldiffBest", spec := "scrolldiffBest", unfollowed := true, recurses := true, apart := false, narrowed := true }
def ScrolldiffBestUptoSaid : Prop := scrolldiffBestUptoRow.holds Try.pinned (OpenSpec.upto scrolldiffBestSpec)

/-- 'narratorlaw18.ScrolldiffInverse', WHERE WHAT IT READS IS OF BULK AT MOST 1048576: true; the input reads as it did. -/
def scrolldiffInverseUptoRow : OpenClaim := { program := "ythohninbelhddaa", sum := "a28019543ff4460f205ec769a48913e0339bd815ffc36aab7b0d9813dd6d4290", func := "narrator/narratorlaw18.ScrolldiffInverse", spec := "scrolldiffInverse", unfollowed := true, recurses := true, apart := false, narrowed := true }
def ScrolldiffInverseUptoSaid : Prop := scrolldiffInverseUptoRow.holds Try.pinned (OpenSpec.upto scrolldiffInverseSpec)

/-- 'narratorlaw18.ScrolldiffEqual', WHERE WHAT IT READS IS OF BULK AT MOST 1048576: true; the input reads as it did. -/
def scrolldiffEqualUptoRow : OpenClaim := { program := "ythohninbelhddaa", sum := "a28019543ff4460f205ec769a48913e0339bd815ffc36aab7b0d9813dd6d4290", func := "narrator/narratorlaw18.ScrolldiffEqual", spec := "scrolldiffEqual", unfollowed := true, recurses := true, apart := false, narrowed := true }
def ScrolldiffEqualUptoSaid : Prop := scrolldiffEqualUptoRow.holds Try.pinned (OpenSpec.upto scrolldiffEqualSpec)

/-- 'narratorlaw18.ScrolldiffGain', WHERE WHAT IT READS IS OF BULK AT MOST 1048576: true; the input reads as it did. -/
def scrolldiffGainUptoRow : OpenClaim := { program := "ythohninbelhddaa", sum := "a28019543ff4460f205ec769a48913e0339bd815ffc36aab7b0d9813dd6d4290", func := "narrator/narratorlaw18.ScrolldiffGain", spec := "scrolldiffGain", unfollowed := true, recurses := true, apart := false, narrowed := true }
def ScrolldiffGainUptoSaid : Prop := scrolldiffGainUptoRow.holds Try.pinned (OpenSpec.upto scrolldiffGainSpec)

/-- 'narratorlaw18.ScrolldiffBack', WHERE WHAT IT READS IS OF BULK AT MOST 1048576: true; the input reads as it did. -/
def scrolldiffBackUptoRow : OpenClaim := { program := "ythohninbelhddaa", sum := "a28019543ff4460f205ec769a48913e0339bd815ffc36aab7b0d9813dd6d4290", func := "narrator/narratorlaw18.ScrolldiffBack", spec := "scrolldiffBack", unfollowed := true, recurses := true, apart := false, narrowed := true }
def ScrolldiffBackUptoSaid : Prop := scrolldiffBackUptoRow.holds Try.pinned (OpenSpec.upto scrolldiffBackSpec)

/-- 'narratorlaw18.ScrolldiffRecognizes', WHERE WHAT IT READS IS OF BULK AT MOST 1048576: true; the input reads as it did. -/
def scrolldiffRecognizesUptoRow : OpenClaim := { program := "ythohninbelhddaa", sum := "a28019543ff4460f205ec769a48913e0339bd815ffc36aab7b0d9813dd6d4290", func := "narrator/narratorlaw18.ScrolldiffRecognizes", spec := "scrolldiffRecognizes", unfollowed := true, recurses := true, apart := false, narrowed := true }
def ScrolldiffRecognizesUptoSaid : Prop := scrolldiffRecognizesUptoRow.holds Try.pinned (OpenSpec.upto scrolldiffRecognizesSpec)

/-- 'narratorlaw18.ScrolldiffKeeps', WHERE WHAT IT READS IS OF BULK AT MOST 1048576: true; the input reads as it did. -/
def scrolldiffKeepsUptoRow : OpenClaim := { program := "ythohninbelhddaa", sum := "a28019543ff4460f205ec769a48913e0339bd815ffc36aab7b0d9813dd6d4290", func := "narrator/narratorlaw18.ScrolldiffKeeps", spec := "scrolldiffKeeps", unfollowed := true, recurses := true, apart := false, narrowed := true }
def ScrolldiffKeepsUptoSaid : Prop := scrolldiffKeepsUptoRow.holds Try.pinned (OpenSpec.upto scrolldiffKeepsSpec)

end Rows
end Go.Proofs.Ythohninbelhddaa
