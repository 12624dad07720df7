/-
  A row of the call's own behind a call that turned nothing old. By an AI agent.
-/
import Derived.Test.YthohninbelhddaaAppend
namespace Go.Proofs.Ythohninbelhddaa
open Go.RowKit

theorem grown_of_below {a w : World} (h : Below a.heap.size a w) (row : Option Nat) : a.grownBy w row := ⟨h.os, h.tape, h.output, h.size, fun i hi _ => h.block i hi⟩
theorem own_under {w w' : World} {base size n : Nat} {e : TypeId} {v : Value} {xs : List Value} (h : w.ownsRow base e size v n xs) (hb : Below w.heap.size w w') : w'.ownsRow base e size v n xs :=
  h.kept (grown_of_below hb none) (by cases v.ownBlock <;> simp)
end Go.Proofs.Ythohninbelhddaa
