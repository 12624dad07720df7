/-
  Words about tables and owned rows. By an AI agent.
-/
import Derived.Lib.SliceRun
import Derived.Laws.CopyOwn
import Derived.Test.YtoemhphgnpedmaaSlv
namespace Go.Proofs.Ytoemhphgnpedmaa
open Go.RowKit

theorem infoRowI : (Try.prog.info? 32).map (fun i => (i.zero, i.size, i.bytes)) = some (some (.slice none 0 0), 1, 24) := by kernel_rfl
/-- A number of a table. -/
def C.at2 (m : List (List Int)) (a b : Nat) : Int := (m.getD a []).getD b 0
theorem C.at2_range {m : List (List Int)} (h : C.Sq m) (a b : Nat) : 0 ≤ C.at2 m a b ∧ C.at2 m a b ≤ 1000000 := by
  unfold C.at2
  by_cases h1 : a < m.length
  · have e1 : m.getD a [] = m[a] := by simp [List.getD, h1]
    rw [e1]
    by_cases h2 : b < m[a].length
    · have e2 : m[a].getD b 0 = m[a][b] := by simp [List.getD, h2]
      rw [e2]
      have := h.2.2 _ (List.getElem_mem h1) _ (List.getElem_mem h2)
      unfold A.M at this
      exact this
    · have e2 : m[a].getD b 0 = 0 := by simp [List.getD, h2]
      rw [e2]; omega
  · have e1 : m.getD a [] = [] := by simp [List.getD, h1]
    rw [e1]; simp
end Go.Proofs.Ytoemhphgnpedmaa
