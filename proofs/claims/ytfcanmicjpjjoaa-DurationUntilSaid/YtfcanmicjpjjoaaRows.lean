/-
  No cell of these rows narrows 'for every input' (looked for: loops, veiled, ifaces, maps, wideKeys, modest, calm, conditions, laid).
  DERIVED. THE GIVEN ROWS OF THIS SEAT. 8 by the template 'for every input the law returns true; each argument reads behind the call as it read before'; 0 by the template 'total and deterministic' (their statements: YtfcanmicjpjjoaaTotals.lean).
  GIVEN WITH THE SEED: the statements are not yours to turn. If you find one false, say at which input.
  Laid BY PROGRAM, IN A SANDBOX (cutbox-rows.mjs): the forced cells as the released guide's own fill.sh prints them over the translation 2fa72a90d690e64e… (all of the seat's roots in one cut). By AI agents, Wed Nov 11 2026. No macro, syntax, notation, axiom, sorry.
-/
import Derived.Test.YtfcanmicjpjjoaaChecked
import GoSem.Claim
import GoSem.ClaimJoined
import GoSem.ClaimMapViews
import Derived.JoinedTies
import Derived.KernelRfl
namespace Go.Proofs.Ytfcanmicjpjjoaa
/- THE CELL 'sum', in the pinned program and in every row, IS THE sha256 OF THE DUMP (.gsa) THAT YtfcanmicjpjjoaaProg.lean LOADS. Nothing in Lean hashes anything: it is a label: what it is worth is what the hold of that sum in a sandbox is worth. -/
noncomputable def Try.pinned : Pinned := { name := "ytfcanmicjpjjoaa", sum := "2fa72a90d690e64e4f8628207c2a5165b4d0ebfcffc2143282c93c4f525c69d3", checked := Try.checked }
namespace Rows
def none {H : Type} : Left H := { results := [], args := [] }

/-- 'narratorlaw43.DurationSum': WHATEVER THE INPUT: true; the input reads as it did. -/
def durationSumSpec : ChangeSpec := { name := "durationSum", fn := fun _ => fun
  | [d1, d2, d3] => { results := [.lit (.bool true)], args := [d1, d2, d3] }
  | _ => none }
def durationSumRow : OpenClaim := { program := "ytfcanmicjpjjoaa", sum := "2fa72a90d690e64e4f8628207c2a5165b4d0ebfcffc2143282c93c4f525c69d3", func := "narrator/narratorlaw43.DurationSum", spec := "durationSum", apart := false }
def DurationSumSaid : Prop := durationSumRow.holds Try.pinned (OpenSpec.ofChange durationSumSpec)

/-- ITS FALSE NEIGHBOUR: 'it returns false'. Refute it at one input. -/
def durationSumWrong : ChangeSpec := { name := "durationSum", fn := fun _ => fun
  | [d1, d2, d3] => { results := [.lit (.bool false)], args := [d1, d2, d3] }
  | _ => none }
def DurationSumWrongFalsely : Prop := durationSumRow.holds Try.pinned (OpenSpec.ofChange durationSumWrong)

/-- 'narratorlaw43.DurationOrder': WHATEVER THE INPUT: true; the input reads as it did. -/
def durationOrderSpec : ChangeSpec := { name := "durationOrder", fn := fun _ => fun
  | [d1, d2] => { results := [.lit (.bool true)], args := [d1, d2] }
  | _ => none }
def durationOrderRow : OpenClaim := { program := "ytfcanmicjpjjoaa", sum := "2fa72a90d690e64e4f8628207c2a5165b4d0ebfcffc2143282c93c4f525c69d3", func := "narrator/narratorlaw43.DurationOrder", spec := "durationOrder", apart := false }
def DurationOrderSaid : Prop := durationOrderRow.holds Try.pinned (OpenSpec.ofChange durationOrderSpec)

/-- ITS FALSE NEIGHBOUR: 'it returns false'. Refute it at one input. -/
def durationOrderWrong : ChangeSpec := { name := "durationOrder", fn := fun _ => fun
  | [d1, d2] => { results := [.lit (.bool false)], args := [d1, d2] }
  | _ => none }
def DurationOrderWrongFalsely : Prop := durationOrderRow.holds Try.pinned (OpenSpec.ofChange durationOrderWrong)

/-- 'narratorlaw43.DurationLonger': WHATEVER THE INPUT: true; the input reads as it did. -/
def durationLongerSpec : ChangeSpec := { name := "durationLonger", fn := fun _ => fun
  | [d1, d2, d3] => { results := [.lit (.bool true)], args := [d1, d2, d3] }
  | _ => none }
def durationLongerRow : OpenClaim := { program := "ytfcanmicjpjjoaa", sum := "2fa72a90d690e64e4f8628207c2a5165b4d0ebfcffc2143282c93c4f525c69d3", func := "narrator/narratorlaw43.DurationLonger", spec := "durationLonger", apart := false }
def DurationLongerSaid : Prop := durationLongerRow.holds Try.pinned (OpenSpec.ofChange durationLongerSpec)

/-- ITS FALSE NEIGHBOUR: 'it returns false'. Refute it at one input. -/
def durationLongerWrong : ChangeSpec := { name := "durationLonger", fn := fun _ => fun
  | [d1, d2, d3] => { results := [.lit (.bool false)], args := [d1, d2, d3] }
  | _ => none }
def DurationLongerWrongFalsely : Prop := durationLongerRow.holds Try.pinned (OpenSpec.ofChange durationLongerWrong)

/-- 'narratorlaw43.DurationSlower': WHATEVER THE INPUT: true; the input reads as it did. -/
def durationSlowerSpec : ChangeSpec := { name := "durationSlower", fn := fun _ => fun
  | [d1, d2, d3] => { results := [.lit (.bool true)], args := [d1, d2, d3] }
  | _ => none }
def durationSlowerRow : OpenClaim := { program := "ytfcanmicjpjjoaa", sum := "2fa72a90d690e64e4f8628207c2a5165b4d0ebfcffc2143282c93c4f525c69d3", func := "narrator/narratorlaw43.DurationSlower", spec := "durationSlower", apart := false }
def DurationSlowerSaid : Prop := durationSlowerRow.holds Try.pinned (OpenSpec.ofChange durationSlowerSpec)

/-- ITS FALSE NEIGHBOUR: 'it returns false'. Refute it at one input. -/
def durationSlowerWrong : ChangeSpec := { name := "durationSlower", fn := fun _ => fun
  | [d1, d2, d3] => { results := [.lit (.bool false)], args := [d1, d2, d3] }
  | _ => none }
def DurationSlowerWrongFalsely : Prop := durationSlowerRow.holds Try.pinned (OpenSpec.ofChange durationSlowerWrong)

/-- 'narratorlaw43.DurationHalf': WHATEVER THE INPUT: true; the input reads as it did. -/
def durationHalfSpec : ChangeSpec := { name := "durationHalf", fn := fun _ => fun
  | [d1, d2] => { results := [.lit (.bool true)], args := [d1, d2] }
  | _ => none }
def durationHalfRow : OpenClaim := { program := "ytfcanmicjpjjoaa", sum := "2fa72a90d690e64e4f8628207c2a5165b4d0ebfcffc2143282c93c4f525c69d3", func := "narrator/narratorlaw43.DurationHalf", spec := "durationHalf", apart := false }
def DurationHalfSaid : Prop := durationHalfRow.holds Try.pinned (OpenSpec.ofChange durationHalfSpec)

/-- ITS FALSE NEIGHBOUR: 'it returns false'. Refute it at one input. -/
def durationHalfWrong : ChangeSpec := { name := "durationHalf", fn := fun _ => fun
  | [d1, d2] => { results := [.lit (.bool false)], args := [d1, d2] }
  | _ => none }
def DurationHalfWrongFalsely : Prop := durationHalfRow.holds Try.pinned (OpenSpec.ofChange durationHalfWrong)

/-- 'narratorlaw43.DurationWords': WHATEVER THE INPUT: true; the input reads as it did. -/
def durationWordsSpec : ChangeSpec := { name := "durationWords", fn := fun _ => fun
  | [d1, d2, d3, d4] => { results := [.lit (.bool true)], args := [d1, d2, d3, d4] }
  | _ => none }
def durationWordsRow : OpenClaim := { program := "ytfcanmicjpjjoaa", sum := "2fa72a90d690e64e4f8628207c2a5165b4d0ebfcffc2143282c93c4f525c69d3", func := "narrator/narratorlaw43.DurationWords", spec := "durationWords", apart := false }
def DurationWordsSaid : Prop := durationWordsRow.holds Try.pinned (OpenSpec.ofChange durationWordsSpec)

/-- ITS FALSE NEIGHBOUR: 'it returns false'. Refute it at one input. -/
def durationWordsWrong : ChangeSpec := { name := "durationWords", fn := fun _ => fun
  | [d1, d2, d3, d4] => { results := [.lit (.bool false)], args := [d1, d2, d3, d4] }
  | _ => none }
def DurationWordsWrongFalsely : Prop := durationWordsRow.holds Try.pinned (OpenSpec.ofChange durationWordsWrong)

/-- 'narratorlaw43.DurationUntil': WHATEVER THE INPUT: true; the input reads as it did. -/
def durationUntilSpec : ChangeSpec := { name := "durationUntil", fn := fun _ => fun
  | [d1, d2, d3, d4] => { results := [.lit (.bool true)], args := [d1, d2, d3, d4] }
  | _ => none }
def durationUntilRow : OpenClaim := { program := "ytfcanmicjpjjoaa", sum := "2fa72a90d690e64e4f8628207c2a5165b4d0ebfcffc2143282c93c4f525c69d3", func := "narrator/narratorlaw43.DurationUntil", spec := "durationUntil", apart := false }
def DurationUntilSaid : Prop := durationUntilRow.holds Try.pinned (OpenSpec.ofChange durationUntilSpec)

/-- ITS FALSE NEIGHBOUR: 'it returns false'. Refute it at one input. -/
def durationUntilWrong : ChangeSpec := { name := "durationUntil", fn := fun _ => fun
  | [d1, d2, d3, d4] => { results := [.lit (.bool false)], args := [d1, d2, d3, d4] }
  | _ => none }
def DurationUntilWrongFalsely : Prop := durationUntilRow.holds Try.pinned (OpenSpec.ofChange durationUntilWrong)

/-- 'narratorlaw43.DurationBounds': WHATEVER THE INPUT: true; the input reads as it did. -/
def durationBoundsSpec : ChangeSpec := { name := "durationBounds", fn := fun _ => fun
  | [d1, d2, d3] => { results := [.lit (.bool true)], args := [d1, d2, d3] }
  | _ => none }
def durationBoundsRow : OpenClaim := { program := "ytfcanmicjpjjoaa", sum := "2fa72a90d690e64e4f8628207c2a5165b4d0ebfcffc2143282c93c4f525c69d3", func := "narrator/narratorlaw43.DurationBounds", spec := "durationBounds", apart := false }
def DurationBoundsSaid : Prop := durationBoundsRow.holds Try.pinned (OpenSpec.ofChange durationBoundsSpec)

/-- ITS FALSE NEIGHBOUR: 'it returns false'. Refute it at one input. -/
def durationBoundsWrong : ChangeSpec := { name := "durationBounds", fn := fun _ => fun
  | [d1, d2, d3] => { results := [.lit (.bool false)], args := [d1, d2, d3] }
  | _ => none }
def DurationBoundsWrongFalsely : Prop := durationBoundsRow.holds Try.pinned (OpenSpec.ofChange durationBoundsWrong)

/- THE SECOND FORM. 'bulk': how many values and letters a reading holds, each counted each time it is reached (what is shared counts as often as it is met; a slice's spare places count too). A statement '..UptoSaid' is the law's where the arguments, and the package variables that the reading takes, are together of bulk at most 1048576: NARROWER than '..Said'. Prove '..Said' where nothing that the law and all that it calls make is longer than what came in: it says more and counts as full. Else prove '..UptoSaid'. A law counts once. -/
mutual
def uptoBulk {H : Type} : DataW H → Nat
  | .lit (.string bytes) => bytes.length + 1
  | .lit _ => 1
  | .nil => 1
  | .ptr d => uptoBulk d + 1
  | .slice elems spare => uptoBulkAll elems + uptoBulkAll spare + 1
  | .agg parts => uptoBulkAll parts + 1
  | .iface _ d => uptoBulk d + 1
  | .map entries => uptoBulkEntries entries + 1
  | .held _ => 1
def uptoBulkAll {H : Type} : List (DataW H) → Nat
  | [] => 0
  | d :: r => uptoBulk d + uptoBulkAll r
def uptoBulkEntries {H : Type} : List (Lit × DataW H) → Nat
  | [] => 0
  | x :: r => uptoBulkEntry x + uptoBulkEntries r
def uptoBulkEntry {H : Type} : Lit × DataW H → Nat
  | (.string bytes, d) => bytes.length + uptoBulk d + 1
  | (_, d) => uptoBulk d + 1
 end
def uptoSmall : (H : Type) → List (DataW H) → Bool := fun _ ds => decide (uptoBulkAll ds ≤ 1048576)
def OpenSpec.upto (s : _root_.Go.ChangeSpec) : _root_.Go.OpenSpec := { _root_.Go.OpenSpec.ofChange s with cond := some uptoSmall }

/-- 'narratorlaw43.DurationSum', WHERE WHAT IT READS IS OF BULK AT MOST 1048576: true; the input reads as it did. -/
def durationSumUptoRow : OpenClaim := { program := "ytfcanmicjpjjoaa", sum := "2fa72a90d690e64e4f8628207c2a5165b4d0ebfcffc2143282c93c4f525c69d3", func := "narrator/narratorlaw43.DurationSum", spec := "durationSum", apart := false, narrowed := true }
def DurationSumUptoSaid : Prop := durationSumUptoRow.holds Try.pinned (OpenSpec.upto durationSumSpec)

/-- 'narratorlaw43.DurationOrder', WHERE WHAT IT READS IS OF BULK AT MOST 1048576: true; the input reads as it did. -/
def durationOrderUptoRow : OpenClaim := { program := "ytfcanmicjpjjoaa", sum := "2fa72a90d690e64e4f8628207c2a5165b4d0ebfcffc2143282c93c4f525c69d3", func := "narrator/narratorlaw43.DurationOrder", spec := "durationOrder", apart := false, narrowed := true }
def DurationOrderUptoSaid : Prop := durationOrderUptoRow.holds Try.pinned (OpenSpec.upto durationOrderSpec)

/-- 'narratorlaw43.DurationLonger', WHERE WHAT IT READS IS OF BULK AT MOST 1048576: true; the input reads as it did. -/
def durationLongerUptoRow : OpenClaim := { program := "ytfcanmicjpjjoaa", sum := "2fa72a90d690e64e4f8628207c2a5165b4d0ebfcffc2143282c93c4f525c69d3", func := "narrator/narratorlaw43.DurationLonger", spec := "durationLonger", apart := false, narrowed := true }
def DurationLongerUptoSaid : Prop := durationLongerUptoRow.holds Try.pinned (OpenSpec.upto durationLongerSpec)

/-- 'narratorlaw43.DurationSlower', WHERE WHAT IT READS IS OF BULK AT MOST 1048576: true; the input reads as it did. -/
def durationSlowerUptoRow : OpenClaim := { program := "ytfcanmicjpjjoaa", sum := "2fa72a90d690e64e4f8628207c2a5165b4d0ebfcffc2143282c93c4f525c69d3", func := "narrator/narratorlaw43.DurationSlower", spec := "durationSlower", apart := false, narrowed := true }
def DurationSlowerUptoSaid : Prop := durationSlowerUptoRow.holds Try.pinned (OpenSpec.upto durationSlowerSpec)

/-- 'narratorlaw43.DurationHalf', WHERE WHAT IT READS IS OF BULK AT MOST 1048576: true; the input reads as it did. -/
def durationHalfUptoRow : OpenClaim := { program := "ytfcanmicjpjjoaa", sum := "2fa72a90d690e64e4f8628207c2a5165b4d0ebfcffc2143282c93c4f525c69d3", func := "narrator/narratorlaw43.DurationHalf", spec := "durationHalf", apart := false, narrowed := true }
def DurationHalfUptoSaid : Prop := durationHalfUptoRow.holds Try.pinned (OpenSpec.upto durationHalfSpec)

/-- 'narratorlaw43.DurationWords', WHERE WHAT IT READS IS OF BULK AT MOST 1048576: true; the input reads as it did. -/
def durationWordsUptoRow : OpenClaim := { program := "ytfcanmicjpjjoaa", sum := "2fa72a90d690e64e4f8628207c2a5165b4d0ebfcffc2143282c93c4f525c69d3", func := "narrator/narratorlaw43.DurationWords", spec := "durationWords", apart := false, narrowed := true }
def DurationWordsUptoSaid : Prop := durationWordsUptoRow.holds Try.pinned (OpenSpec.upto durationWordsSpec)

/-- 'narratorlaw43.DurationUntil', WHERE WHAT IT READS IS OF BULK AT MOST 1048576: true; the input reads as it did. -/
def durationUntilUptoRow : OpenClaim := { program := "ytfcanmicjpjjoaa", sum := "2fa72a90d690e64e4f8628207c2a5165b4d0ebfcffc2143282c93c4f525c69d3", func := "narrator/narratorlaw43.DurationUntil", spec := "durationUntil", apart := false, narrowed := true }
def DurationUntilUptoSaid : Prop := durationUntilUptoRow.holds Try.pinned (OpenSpec.upto durationUntilSpec)

/-- 'narratorlaw43.DurationBounds', WHERE WHAT IT READS IS OF BULK AT MOST 1048576: true; the input reads as it did. -/
def durationBoundsUptoRow : OpenClaim := { program := "ytfcanmicjpjjoaa", sum := "2fa72a90d690e64e4f8628207c2a5165b4d0ebfcffc2143282c93c4f525c69d3", func := "narrator/narratorlaw43.DurationBounds", spec := "durationBounds", apart := false, narrowed := true }
def DurationBoundsUptoSaid : Prop := durationBoundsUptoRow.holds Try.pinned (OpenSpec.upto durationBoundsSpec)

end Rows
end Go.Proofs.Ytfcanmicjpjjoaa
