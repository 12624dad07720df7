/-
  Pieces that the statements of layer 17 share. By an AI agent.
-/
import Derived.Test.YteakiielcmgkeaaAw
namespace Go.Proofs.Yteakiielcmgkeaa
set_option linter.unusedSimpArgs false
set_option linter.unusedVariables false
open Go.RowKit Go.Deep

theorem R.sp_low {a b : List R.G} (la : a.length ≤ 100) (lb : b.length ≤ 100) {row : Int} {xs : List R.Cs} (h : xs.map (·.c) = (R.splices R.bl a b).map (R.Cx.of row)) : xs.length ≤ 200 ∧ ∀ x ∈ xs, x.c.gl.length ≤ 100000 := by
  have ta := trim_len a
  have tb := trim_len b
  have LOW := script_lowG (a := R.trimEnd R.bl a) (b := R.trimEnd R.bl b) (by omega) (by omega)
  have hl : xs.length = (R.splices R.bl a b).length := by have := congrArg List.length h; simpa using this
  unfold R.splices at h hl
  split at h
  · rename_i hc
    rw [if_pos hc] at hl
    refine ⟨by rw [hl]; simp, fun x hx => ?_⟩
    have hm : x.c ∈ xs.map (·.c) := List.mem_map.2 ⟨x, hx, rfl⟩
    rw [h] at hm
    simp only [List.map_cons, List.map_nil, List.mem_singleton] at hm
    rw [hm]
    simp only [R.Cx.of, R.repl]
    omega
  · rename_i hc
    rw [if_neg hc] at hl
    refine ⟨by rw [hl]; unfold R.outs; rw [R.ofEd_length]; exact LOW.1, R.gl_bd h LOW.2⟩
theorem R.one_low {c : R.Cx} {v : Value} (h : c.gl.length ≤ 100000) : ∀ x ∈ [(⟨c, v⟩ : R.Cs)], x.c.gl.length ≤ 100000 := by
  intro x hx
  simp only [List.mem_singleton] at hx
  subst hx
  exact h
end Go.Proofs.Yteakiielcmgkeaa
