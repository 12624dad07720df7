/-
  The walks of layer 44: say. By an AI agent.
-/
import Derived.Test.YtfjkelngdljikaaQw
namespace Go.Proofs.Ytfjkelngdljikaa
set_option linter.unusedVariables false
set_option linter.unusedSimpArgs false
open Go.RowKit Go.Joins

/-- What is said. -/
def Q.said (s : ByteArray) (n : Int) : Q.Ut := ⟨[s], [], 0, n, 0⟩
theorem say_any (s : ByteArray) (n : Int) (w : World) :
    Calls Try.prog 33 #[.string s, .int .i64 n] w fun e w' => ∃ A, e = .returned (.agg (Q.Um.cells ⟨Q.said s n, A, 1, none, 0⟩).toArray) ∧ Q.UIn w' w'.heap.size ⟨Q.said s n, A, 1, none, 0⟩ ∧ Below w.heap.size w w' := by
  go_enter Try.func33, Try.ntmps33
  go_wp2_with fail
  have own0 := World.ownsRow_lit (base := w.heap.size) (e := 9) (size := 1) (w.alloc (.cells #[.slice (some ⟨w.heap.size + 1, 0, none⟩) 1 1, .slice none 0 0, .int .i64 0, .int .i64 n, .int .i64 0] 25)) #[.string s] 1 (by simp) (by decide) rfl
  rw [World.size_alloc] at own0
  refine bodyPost_ret (v := .agg #[.slice (some ⟨w.heap.size + 1, 0, none⟩) 1 1, .slice none 0 0, .int .i64 0, .int .i64 n, .int .i64 0]) (by simp [results, Try.results33, go_sem]) rfl ⟨some ⟨w.heap.size + 1, 0, none⟩, rfl, ⟨by simpa [Q.said] using Reads.of_own own0, ⟨[], rfl, ⟨Reads.none_, fun y hy => by cases hy⟩⟩, by simp [Q.said], by simp [Q.said]⟩, (below_box w _).alloc (by simp) _⟩
end Go.Proofs.Ytfjkelngdljikaa
