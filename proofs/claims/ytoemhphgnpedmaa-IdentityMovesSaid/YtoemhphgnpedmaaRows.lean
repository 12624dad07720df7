/-
  No cell of these rows narrows 'for every input' (looked for: loops, veiled, ifaces, maps, wideKeys, modest, calm, conditions, laid).
  DERIVED. THE GIVEN ROWS OF THIS SEAT. 8 by the template 'for every input the law returns true; each argument reads behind the call as it read before'; 0 by the template 'total and deterministic' (their statements: YtoemhphgnpedmaaTotals.lean).
  GIVEN WITH THE SEED: the statements are not yours to turn. If you find one false, say at which input.
  Laid BY PROGRAM, IN A SANDBOX (cutbox-rows.mjs): the forced cells as the released guide's own fill.sh prints them over the translation bbf209c0bc46732c… (all of the seat's roots in one cut). By AI agents, Wed Nov 11 2026. No macro, syntax, notation, axiom, sorry.
-/
import Derived.Test.YtoemhphgnpedmaaChecked
import GoSem.Claim
import GoSem.ClaimJoined
import GoSem.ClaimMapViews
import Derived.JoinedTies
import Derived.KernelRfl
namespace Go.Proofs.Ytoemhphgnpedmaa
/- THE CELL 'sum', in the pinned program and in every row, IS THE sha256 OF THE DUMP (.gsa) THAT YtoemhphgnpedmaaProg.lean LOADS. Nothing in Lean hashes anything: it is a label: what it is worth is what the hold of that sum in a sandbox is worth. -/
noncomputable def Try.pinned : Pinned := { name := "ytoemhphgnpedmaa", sum := "bbf209c0bc46732c857bc1eb31a3430a2b9cf29155f818c62c679c74c948398b", checked := Try.checked }
namespace Rows
def none {H : Type} : Left H := { results := [], args := [] }

/-- 'narratorlaw30.IdentityKeeps': WHATEVER THE INPUT: true; the input reads as it did. -/
def identityKeepsSpec : ChangeSpec := { name := "identityKeeps", fn := fun _ => fun
  | [d1, d2, d3] => { results := [.lit (.bool true)], args := [d1, d2, d3] }
  | _ => none }
def identityKeepsRow : OpenClaim := { program := "ytoemhphgnpedmaa", sum := "bbf209c0bc46732c857bc1eb31a3430a2b9cf29155f818c62c679c74c948398b", func := "narrator/narratorlaw30.IdentityKeeps", spec := "identityKeeps", unfollowed := true, recurses := true, apart := false }
def IdentityKeepsSaid : Prop := identityKeepsRow.holds Try.pinned (OpenSpec.ofChange identityKeepsSpec)

/-- ITS FALSE NEIGHBOUR: 'it returns false'. Refute it at one input. -/
def identityKeepsWrong : ChangeSpec := { name := "identityKeeps", fn := fun _ => fun
  | [d1, d2, d3] => { results := [.lit (.bool false)], args := [d1, d2, d3] }
  | _ => none }
def IdentityKeepsWrongFalsely : Prop := identityKeepsRow.holds Try.pinned (OpenSpec.ofChange identityKeepsWrong)

/-- 'narratorlaw30.IdentityLikeness': WHATEVER THE INPUT: true; the input reads as it did. -/
def identityLikenessSpec : ChangeSpec := { name := "identityLikeness", fn := fun _ => fun
  | [d1, d2] => { results := [.lit (.bool true)], args := [d1, d2] }
  | _ => none }
def identityLikenessRow : OpenClaim := { program := "ytoemhphgnpedmaa", sum := "bbf209c0bc46732c857bc1eb31a3430a2b9cf29155f818c62c679c74c948398b", func := "narrator/narratorlaw30.IdentityLikeness", spec := "identityLikeness", unfollowed := true, recurses := true, apart := false }
def IdentityLikenessSaid : Prop := identityLikenessRow.holds Try.pinned (OpenSpec.ofChange identityLikenessSpec)

/-- ITS FALSE NEIGHBOUR: 'it returns false'. Refute it at one input. -/
def identityLikenessWrong : ChangeSpec := { name := "identityLikeness", fn := fun _ => fun
  | [d1, d2] => { results := [.lit (.bool false)], args := [d1, d2] }
  | _ => none }
def IdentityLikenessWrongFalsely : Prop := identityLikenessRow.holds Try.pinned (OpenSpec.ofChange identityLikenessWrong)

/-- 'narratorlaw30.IdentityMatch': WHATEVER THE INPUT: true; the input reads as it did. -/
def identityMatchSpec : ChangeSpec := { name := "identityMatch", fn := fun _ => fun
  | [d1, d2, d3] => { results := [.lit (.bool true)], args := [d1, d2, d3] }
  | _ => none }
def identityMatchRow : OpenClaim := { program := "ytoemhphgnpedmaa", sum := "bbf209c0bc46732c857bc1eb31a3430a2b9cf29155f818c62c679c74c948398b", func := "narrator/narratorlaw30.IdentityMatch", spec := "identityMatch", unfollowed := true, recurses := true, apart := false }
def IdentityMatchSaid : Prop := identityMatchRow.holds Try.pinned (OpenSpec.ofChange identityMatchSpec)

/-- ITS FALSE NEIGHBOUR: 'it returns false'. Refute it at one input. -/
def identityMatchWrong : ChangeSpec := { name := "identityMatch", fn := fun _ => fun
  | [d1, d2, d3] => { results := [.lit (.bool false)], args := [d1, d2, d3] }
  | _ => none }
def IdentityMatchWrongFalsely : Prop := identityMatchRow.holds Try.pinned (OpenSpec.ofChange identityMatchWrong)

/-- 'narratorlaw30.IdentityMeasure': WHATEVER THE INPUT: true; the input reads as it did. -/
def identityMeasureSpec : ChangeSpec := { name := "identityMeasure", fn := fun _ => fun
  | [d1, d2] => { results := [.lit (.bool true)], args := [d1, d2] }
  | _ => none }
def identityMeasureRow : OpenClaim := { program := "ytoemhphgnpedmaa", sum := "bbf209c0bc46732c857bc1eb31a3430a2b9cf29155f818c62c679c74c948398b", func := "narrator/narratorlaw30.IdentityMeasure", spec := "identityMeasure", unfollowed := true, recurses := true, apart := false }
def IdentityMeasureSaid : Prop := identityMeasureRow.holds Try.pinned (OpenSpec.ofChange identityMeasureSpec)

/-- ITS FALSE NEIGHBOUR: 'it returns false'. Refute it at one input. -/
def identityMeasureWrong : ChangeSpec := { name := "identityMeasure", fn := fun _ => fun
  | [d1, d2] => { results := [.lit (.bool false)], args := [d1, d2] }
  | _ => none }
def IdentityMeasureWrongFalsely : Prop := identityMeasureRow.holds Try.pinned (OpenSpec.ofChange identityMeasureWrong)

/-- 'narratorlaw30.IdentityUnique': WHATEVER THE INPUT: true; the input reads as it did. -/
def identityUniqueSpec : ChangeSpec := { name := "identityUnique", fn := fun _ => fun
  | [d1, d2, d3] => { results := [.lit (.bool true)], args := [d1, d2, d3] }
  | _ => none }
def identityUniqueRow : OpenClaim := { program := "ytoemhphgnpedmaa", sum := "bbf209c0bc46732c857bc1eb31a3430a2b9cf29155f818c62c679c74c948398b", func := "narrator/narratorlaw30.IdentityUnique", spec := "identityUnique", unfollowed := true, recurses := true, apart := false }
def IdentityUniqueSaid : Prop := identityUniqueRow.holds Try.pinned (OpenSpec.ofChange identityUniqueSpec)

/-- ITS FALSE NEIGHBOUR: 'it returns false'. Refute it at one input. -/
def identityUniqueWrong : ChangeSpec := { name := "identityUnique", fn := fun _ => fun
  | [d1, d2, d3] => { results := [.lit (.bool false)], args := [d1, d2, d3] }
  | _ => none }
def IdentityUniqueWrongFalsely : Prop := identityUniqueRow.holds Try.pinned (OpenSpec.ofChange identityUniqueWrong)

/-- 'narratorlaw30.IdentityUnlike': WHATEVER THE INPUT: true; the input reads as it did. -/
def identityUnlikeSpec : ChangeSpec := { name := "identityUnlike", fn := fun _ => fun
  | [d1, d2, d3] => { results := [.lit (.bool true)], args := [d1, d2, d3] }
  | _ => none }
def identityUnlikeRow : OpenClaim := { program := "ytoemhphgnpedmaa", sum := "bbf209c0bc46732c857bc1eb31a3430a2b9cf29155f818c62c679c74c948398b", func := "narrator/narratorlaw30.IdentityUnlike", spec := "identityUnlike", unfollowed := true, recurses := true, apart := false }
def IdentityUnlikeSaid : Prop := identityUnlikeRow.holds Try.pinned (OpenSpec.ofChange identityUnlikeSpec)

/-- ITS FALSE NEIGHBOUR: 'it returns false'. Refute it at one input. -/
def identityUnlikeWrong : ChangeSpec := { name := "identityUnlike", fn := fun _ => fun
  | [d1, d2, d3] => { results := [.lit (.bool false)], args := [d1, d2, d3] }
  | _ => none }
def IdentityUnlikeWrongFalsely : Prop := identityUnlikeRow.holds Try.pinned (OpenSpec.ofChange identityUnlikeWrong)

/-- 'narratorlaw30.IdentityMoves': WHATEVER THE INPUT: true; the input reads as it did. -/
def identityMovesSpec : ChangeSpec := { name := "identityMoves", fn := fun _ => fun
  | [d1, d2, d3, d4, d5] => { results := [.lit (.bool true)], args := [d1, d2, d3, d4, d5] }
  | _ => none }
def identityMovesRow : OpenClaim := { program := "ytoemhphgnpedmaa", sum := "bbf209c0bc46732c857bc1eb31a3430a2b9cf29155f818c62c679c74c948398b", func := "narrator/narratorlaw30.IdentityMoves", spec := "identityMoves", unfollowed := true, recurses := true, apart := false }
def IdentityMovesSaid : Prop := identityMovesRow.holds Try.pinned (OpenSpec.ofChange identityMovesSpec)

/-- ITS FALSE NEIGHBOUR: 'it returns false'. Refute it at one input. -/
def identityMovesWrong : ChangeSpec := { name := "identityMoves", fn := fun _ => fun
  | [d1, d2, d3, d4, d5] => { results := [.lit (.bool false)], args := [d1, d2, d3, d4, d5] }
  | _ => none }
def IdentityMovesWrongFalsely : Prop := identityMovesRow.holds Try.pinned (OpenSpec.ofChange identityMovesWrong)

/-- 'narratorlaw30.IdentityGone': WHATEVER THE INPUT: true; the input reads as it did. -/
def identityGoneSpec : ChangeSpec := { name := "identityGone", fn := fun _ => fun
  | [d1, d2] => { results := [.lit (.bool true)], args := [d1, d2] }
  | _ => none }
def identityGoneRow : OpenClaim := { program := "ytoemhphgnpedmaa", sum := "bbf209c0bc46732c857bc1eb31a3430a2b9cf29155f818c62c679c74c948398b", func := "narrator/narratorlaw30.IdentityGone", spec := "identityGone", unfollowed := true, recurses := true, apart := false }
def IdentityGoneSaid : Prop := identityGoneRow.holds Try.pinned (OpenSpec.ofChange identityGoneSpec)

/-- ITS FALSE NEIGHBOUR: 'it returns false'. Refute it at one input. -/
def identityGoneWrong : ChangeSpec := { name := "identityGone", fn := fun _ => fun
  | [d1, d2] => { results := [.lit (.bool false)], args := [d1, d2] }
  | _ => none }
def IdentityGoneWrongFalsely : Prop := identityGoneRow.holds Try.pinned (OpenSpec.ofChange identityGoneWrong)

/- THE SECOND FORM. 'bulk': how many values and letters a reading holds, each counted each time it is reached (what is shared counts as often as it is met; a slice's spare places count too). A statement '..UptoSaid' is the law's where the arguments, and the package variables that the reading takes, are together of bulk at most 1048576: NARROWER than '..Said'. Prove '..Said' where nothing that the law and all that it calls make is longer than what came in: it says more and counts as full. Else prove '..UptoSaid'. A law counts once. -/
mutual
def uptoBulk {H : Type} : DataW H → Nat
  | .lit (.string bytes) => bytes.length + 1
  | .lit _ => 1
  | .nil => 1
  | .ptr d => uptoBulk d + 1
  | .slice elems spare => uptoBulkAll elems + uptoBulkAll spare + 1
  | .agg parts => uptoBulkAll parts + 1
  | .iface _ d => uptoBulk d + 1
  | .map entries => uptoBulkEntries entries + 1
  | .held _ => 1
def uptoBulkAll {H : Type} : List (DataW H) → Nat
  | [] => 0
  | d :: r => uptoBulk d + uptoBulkAll r
def uptoBulkEntries {H : Type} : List (Lit × DataW H) → Nat
  | [] => 0
  | x :: r => uptoBulkEntry x + uptoBulkEntries r
def uptoBulkEntry {H : Type} : Lit × DataW H → Nat
  | (.string bytes, d) => bytes.length + uptoBulk d + 1
  | (_, d) => uptoBulk d + 1
 end
def uptoSmall : (H : Type) → List (DataW H) → Bool := fun _ ds => decide (uptoBulkAll ds ≤ 1048576)
def OpenSpec.upto (s : _root_.Go.ChangeSpec) : _root_.Go.OpenSpec := { _root_.Go.OpenSpec.ofChange s with cond := some uptoSmall }

/-- 'narratorlaw30.IdentityKeeps', WHERE WHAT IT READS IS OF BULK AT MOST 1048576: true; the input reads as it did. -/
def identityKeepsUptoRow : OpenClaim := { program := "ytoemhphgnpedmaa", sum := "bbf209c0bc46732c857bc1eb31a3430a2b9cf29155f818c62c679c74c948398b", func := "narrator/narratorlaw30.IdentityKeeps", spec := "identityKeeps", unfollowed := true, recurses := true, apart := false, narrowed := true }
def IdentityKeepsUptoSaid : Prop := identityKeepsUptoRow.holds Try.pinned (OpenSpec.upto identityKeepsSpec)

/-- 'narratorlaw30.IdentityLikeness', WHERE WHAT IT READS IS OF BULK AT MOST 1048576: true; the input reads as it did. -/
def identityLikenessUptoRow : OpenClaim := { program := "ytoemhphgnpedmaa", sum := "bbf209c0bc46732c857bc1eb31a3430a2b9cf29155f818c62c679c74c948398b", func := "narrator/narratorlaw30.IdentityLikeness", spec := "identityLikeness", unfollowed := true, recurses := true, apart := false, narrowed := true }
def IdentityLikenessUptoSaid : Prop := identityLikenessUptoRow.holds Try.pinned (OpenSpec.upto identityLikenessSpec)

/-- 'narratorlaw30.IdentityMatch', WHERE WHAT IT READS IS OF BULK AT MOST 1048576: true; the input reads as it did. -/
def identityMatchUptoRow : OpenClaim := { program := "ytoemhphgnpedmaa", sum := "bbf209c0bc46732c857bc1eb31a3430a2b9cf29155f818c62c679c74c948398b", func := "narrator/narratorlaw30.IdentityMatch", spec := "identityMatch", unfollowed := true, recurses := true, apart := false, narrowed := true }
def IdentityMatchUptoSaid : Prop := identityMatchUptoRow.holds Try.pinned (OpenSpec.upto identityMatchSpec)

/-- 'narratorlaw30.IdentityMeasure', WHERE WHAT IT READS IS OF BULK AT MOST 1048576: true; the input reads as it did. -/
def identityMeasureUptoRow : OpenClaim := { program := "ytoemhphgnpedmaa", sum := "bbf209c0bc46732c857bc1eb31a3430a2b9cf29155f818c62c679c74c948398b", func := "narrator/narratorlaw30.IdentityMeasure", spec := "identityMeasure", unfollowed := true, recurses := true, apart := false, narrowed := true }
def IdentityMeasureUptoSaid : Prop := identityMeasureUptoRow.holds Try.pinned (OpenSpec.upto identityMeasureSpec)

/-- 'narratorlaw30.IdentityUnique', WHERE WHAT IT READS IS OF BULK AT MOST 1048576: true; the input reads as it did. -/
def identityUniqueUptoRow : OpenClaim := { program := "ytoemhphgnpedmaa", sum := "bbf209c0bc46732c857bc1eb31a3430a2b9cf29155f818c62c679c74c948398b", func := "narrator/narratorlaw30.IdentityUnique", spec := "identityUnique", unfollowed := true, recurses := true, apart := false, narrowed := true }
def IdentityUniqueUptoSaid : Prop := identityUniqueUptoRow.holds Try.pinned (OpenSpec.upto identityUniqueSpec)

/-- 'narratorlaw30.IdentityUnlike', WHERE WHAT IT READS IS OF BULK AT MOST 1048576: true; the input reads as it did. -/
def identityUnlikeUptoRow : OpenClaim := { program := "ytoemhphgnpedmaa", sum := "bbf209c0bc46732c857bc1eb31a3430a2b9cf29155f818c62c679c74c948398b", func := "narrator/narratorlaw30.IdentityUnlike", spec := "identityUnlike", unfollowed := true, recurses := true, apart := false, narrowed := true }
def IdentityUnlikeUptoSaid : Prop := identityUnlikeUptoRow.holds Try.pinned (OpenSpec.upto identityUnlikeSpec)

/-- 'narratorlaw30.IdentityMoves', WHERE WHAT IT READS IS OF BULK AT MOST 1048576: true; the input reads as it did. -/
def identityMovesUptoRow : OpenClaim := { program := "ytoemhphgnpedmaa", sum := "bbf209c0bc46732c857bc1eb31a3430a2b9cf29155f818c62c679c74c948398b", func := "narrator/narratorlaw30.IdentityMoves", spec := "identityMoves", unfollowed := true, recurses := true, apart := false, narrowed := true }
def IdentityMovesUptoSaid : Prop := identityMovesUptoRow.holds Try.pinned (OpenSpec.upto identityMovesSpec)

/-- 'narratorlaw30.IdentityGone', WHERE WHAT IT READS IS OF BULK AT MOST 1048576: true; the input reads as it did. -/
def identityGoneUptoRow : OpenClaim := { program := "ytoemhphgnpedmaa", sum := "bbf209c0bc46732c857bc1eb31a3430a2b9cf29155f818c62c679c74c948398b", func := "narrator/narratorlaw30.IdentityGone", spec := "identityGone", unfollowed := true, recurses := true, apart := false, narrowed := true }
def IdentityGoneUptoSaid : Prop := identityGoneUptoRow.holds Try.pinned (OpenSpec.upto identityGoneSpec)

end Rows
end Go.Proofs.Ytoemhphgnpedmaa
