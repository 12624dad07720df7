/-
  The walks of layer 44: Interrupt. By an AI agent.
-/
import Derived.Test.YtfjkelngdljikaaRr
import Derived.Deep.RegionHeld3
namespace Go.Proofs.Ytfjkelngdljikaa
set_option linter.unusedVariables false
set_option linter.unusedSimpArgs false
open Go.RowKit Go.Joins Go.Deep

/-- The cells of a block that is known whole. -/
theorem cells_of_block {W : World} {g : Nat} {C : Array Value} {t : TypeId} (h : W.heap[g]? = some (.cells C t (0, 0))) (i : Nat) (hi : i < C.size) : W.cell? ⟨g, i, none⟩ = some C[i] := by
  rw [cell_of_block_ h, Array.getElem?_eq_getElem hi]
/-- What Interrupt answers. -/
def Q.inter (a : Q.Qa) : Q.Qa := a.silent.settled
/-- A queue, what was spoken, and a number. -/
def Q.IIn (x : Q.Qa) (s : Q.Sa) (n : Int) (w w' : World) (e : Ending) : Prop := ∃ (q : Q.Qm) (m : Q.Sm), e = .returned (.tuple #[.agg q.cells.toArray, .agg m.cells.toArray, .int .i64 n]) ∧ q.a = x ∧ m.a = s ∧ Q.QIn w' w'.heap.size q ∧ Q.UIn w' w'.heap.size m.m ∧ Below w.heap.size w w'
end Go.Proofs.Ytfjkelngdljikaa
