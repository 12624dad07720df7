/-
  Cuts of a slice of glyphs. No walk. By an AI agent.
-/
import Derived.Test.YteakiielcmgkeaaTr
namespace Go.Proofs.Yteakiielcmgkeaa
set_option linter.unusedSimpArgs false
set_option linter.unusedVariables false
open Go.RowKit

theorem cell_of_block_ {W : World} {g i : Nat} {cs : Array Value} {t : TypeId} (h : W.heap[g]? = some (.cells cs t (0, 0))) : W.cell? ⟨g, i, none⟩ = cs[i]? := cell_of_row W g i cs t (0, 0) h
theorem heap_old2 (w : World) (o : Obj) {n : Nat} {x : Obj} (h : w.heap[n]? = some x) : (w.alloc o).heap[n]? = some x := by
  rw [Below.heap_alloc w o n (Array.getElem?_eq_some_iff.1 h).1]; exact h
theorem gcs_drop (l : List R.G) (k : Nat) : R.gcs (l.drop k) = (R.gcs l).drop (k * 3) := by
  induction l generalizing k with
  | nil => simp [R.gcs]
  | cons g l ih =>
    cases k with
    | zero => simp
    | succ k =>
      have e : R.gcs (g :: l) = g.cells ++ R.gcs l := rfl
      rw [List.drop_succ_cons, ih, e, List.drop_append, R.G.cells_len, show List.drop ((k + 1) * 3) g.cells = [] from List.drop_of_length_le (by rw [R.G.cells_len]; omega), List.nil_append, show (k + 1) * 3 - 3 = k * 3 by omega]
theorem Reads.drop_gl {w : World} {B : Nat} {A A' : Option Addr} {l : List R.G} (h : Reads w B 3 A l.length (R.gcs l)) {k : Nat} (hk : k ≤ l.length) (hn : k < l.length → A' = A.map (·.add (k * 3))) : Reads w B 3 A' (l.length - k) (R.gcs (l.drop k)) := by
  refine ⟨by rw [R.gcs_len, List.length_drop], fun h0 => ?_⟩
  obtain ⟨ad, rfl, hb, hc⟩ := h.2 (by omega)
  refine ⟨ad.add (k * 3), hn (by omega), by rw [block_of_add]; exact hb, fun j u hu => ?_⟩
  rw [add_of_add]
  refine hc _ u ?_
  rw [gcs_drop, List.getElem?_drop] at hu
  exact hu
theorem Reads.take_gl' {w : World} {B n : Nat} {A : Option Addr} {l : List R.G} (h : Reads w B 3 A n (R.gcs l)) {k : Nat} (hk : k ≤ n) : Reads w B 3 A k (R.gcs (l.take k)) := by
  have e : n = l.length := by have := h.1; rw [R.gcs_len] at this; omega
  subst e
  exact h.take_gl hk
/-- s[k:]. -/
theorem slice_from (A : Option Addr) (l : List R.G) {c k : Nat} (hk : k ≤ l.length) (hc : l.length ≤ c) :
    ∃ A', (∀ w' : World, (Instr.sliceAt 22 (.slice A l.length c) (some (.int .i64 (k : Int))) none none).run Try.prog w' = .ok (.slice A' (l.length - k) (c - k)) w') ∧ ∀ w B, Reads w B 3 A l.length (R.gcs l) → Reads w B 3 A' (l.length - k) (R.gcs (l.drop k)) := by
  refine ⟨if c = k then A else A.map (·.add (k * 3)), fun w' => ?_, fun w B h => h.drop_gl hk (fun h => by rw [if_neg (by omega)])⟩
  have ht : Try.prog.underlying 22 = some (.slice (Try.prog.elem 22)) := by kernel_rfl
  have hs : (sizeOf (Try.prog.elem 22)).run Try.prog w' = .ok 3 w' := by kernel_rfl
  rw [run_sliceAt_slice _ _ _ _ _ _ ht, run_slice_l _ _ _ _ _ ht .i64 (k : Int) (by omega) (by omega), hs]
  simp only [Result.andThen, sliced, Int.toNat_natCast]
/-- s[m:n]. -/
theorem slice_mid (A : Option Addr) (l : List R.G) {c m n : Nat} (hm : m ≤ n) (hn : n ≤ l.length) (hc : l.length ≤ c) :
    ∃ A', (∀ w' : World, (Instr.sliceAt 22 (.slice A l.length c) (some (.int .i64 (m : Int))) (some (.int .i64 (n : Int))) none).run Try.prog w' = .ok (.slice A' (n - m) (c - m)) w') ∧ ∀ w B, Reads w B 3 A l.length (R.gcs l) → Reads w B 3 A' (n - m) (R.gcs ((l.drop m).take (n - m))) := by
  refine ⟨if c = m then A else A.map (·.add (m * 3)), fun w' => ?_, fun w B h => (h.drop_gl (Nat.le_trans hm hn) (fun h => by rw [if_neg (by omega)])).take_gl' (by omega)⟩
  have ht : Try.prog.underlying 22 = some (.slice (Try.prog.elem 22)) := by kernel_rfl
  have hs : (sizeOf (Try.prog.elem 22)).run Try.prog w' = .ok 3 w' := by kernel_rfl
  rw [run_sliceAt_slice _ _ _ _ _ _ ht, run_slice_lh _ _ _ _ _ ht .i64 .i64 (m : Int) (n : Int) (by omega) (by omega) (by omega), hs]
  simp only [Result.andThen, sliced, Int.toNat_natCast]
end Go.Proofs.Yteakiielcmgkeaa
