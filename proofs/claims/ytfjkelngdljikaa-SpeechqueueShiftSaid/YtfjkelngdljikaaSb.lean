/-
  A store into a block that is known whole, inside a drawn region. By an AI agent.
-/
import Derived.Test.YtfjkelngdljikaaQw
namespace Go.Proofs.Ytfjkelngdljikaa
set_option linter.unusedVariables false
set_option linter.unusedSimpArgs false
open Go.RowKit Go.Joins

theorem step_store_blk {P : Program} {ops : Array Oper} {op : Oper} {a : Act} {w : World} {K : Act → World → Prop} {Q : Exit → Act → World → Prop} {E : Prop} (hgd : op.guard = none) (ty : TypeId) (x y : Operand) (ho : op.op = .store ty x y)
    (b o : Nat) (cells C : Array Value) (t : TypeId) (hx : a.eval x = .pointer (some ⟨b, o, none⟩)) (hy : a.eval y = .agg cells)
    (hb : w.heap[b]? = some (.cells C t (0, 0))) (hn : o + cells.size ≤ C.size) (hi : (P.info? ty).map (·.size) = some cells.size) (h1 : cells.all (·.oneCell') = true)
    (h : ∀ W9 : World, W9.heap[b]? = some (.cells (putAt C.toList o cells.toList).toArray t (0, 0)) → w.grownBy W9 (some b) → K (a.put op.dst undef) W9) :
    if Region.wanted op (yielded ops a.tmps) = true then Oper.wp P op a w K Q else E := by
  have hw : Region.wanted op (yielded ops a.tmps) = true := by simp [Region.wanted, hgd]
  rw [if_pos hw]
  let k := block_setCells cells.toList o w C hb
  exact wp_store_mid ty x y ho b o cells hx hy (there_block hb o _ hn) hi h1 (h _ k.1 k.2)
namespace Q
theorem set8 {W : World} {g : Nat} {t : TypeId} {C : Array Value} (h : W.heap[g]? = some (.cells C t (0, 0))) (hC : C.size = 8) (v0 v1 v2 v3 v4 v5 v6 v7 : Value) :
    ∃ W9, ((((((((W.setCell ⟨g, 0, none⟩ v0).setCell ⟨g, 1, none⟩ v1).setCell ⟨g, 2, none⟩ v2).setCell ⟨g, 3, none⟩ v3).setCell ⟨g, 4, none⟩ v4).setCell ⟨g, 5, none⟩ v5).setCell ⟨g, 6, none⟩ v6).setCell ⟨g, 7, none⟩ v7) = W9 ∧ W9.heap[g]? = some (.cells #[v0, v1, v2, v3, v4, v5, v6, v7] t (0, 0)) ∧ W.grownBy W9 (some g) := by
  obtain ⟨h1, h2⟩ := block_setCells [v0, v1, v2, v3, v4, v5, v6, v7] 0 W C h
  refine ⟨_, rfl, ?_, h2⟩
  have e : (putAt C.toList 0 [v0, v1, v2, v3, v4, v5, v6, v7]).toArray = #[v0, v1, v2, v3, v4, v5, v6, v7] := by
    obtain ⟨l⟩ := C
    simp only [List.size_toArray] at hC
    match l, hC with
    | [x0, x1, x2, x3, x4, x5, x6, x7], _ => rfl
  rw [e] at h1
  exact h1
theorem set11 {W : World} {g : Nat} {t : TypeId} {C : Array Value} (h : W.heap[g]? = some (.cells C t (0, 0))) (hC : C.size = 11) (v0 v1 v2 v3 v4 v5 v6 v7 v8 v9 v10 : Value) :
    ∃ W9, (((((((((((W.setCell ⟨g, 0, none⟩ v0).setCell ⟨g, 1, none⟩ v1).setCell ⟨g, 2, none⟩ v2).setCell ⟨g, 3, none⟩ v3).setCell ⟨g, 4, none⟩ v4).setCell ⟨g, 5, none⟩ v5).setCell ⟨g, 6, none⟩ v6).setCell ⟨g, 7, none⟩ v7).setCell ⟨g, 8, none⟩ v8).setCell ⟨g, 9, none⟩ v9).setCell ⟨g, 10, none⟩ v10) = W9 ∧ W9.heap[g]? = some (.cells #[v0, v1, v2, v3, v4, v5, v6, v7, v8, v9, v10] t (0, 0)) ∧ W.grownBy W9 (some g) := by
  obtain ⟨h1, h2⟩ := block_setCells [v0, v1, v2, v3, v4, v5, v6, v7, v8, v9, v10] 0 W C h
  refine ⟨_, rfl, ?_, h2⟩
  have e : (putAt C.toList 0 [v0, v1, v2, v3, v4, v5, v6, v7, v8, v9, v10]).toArray = #[v0, v1, v2, v3, v4, v5, v6, v7, v8, v9, v10] := by
    obtain ⟨l⟩ := C
    simp only [List.size_toArray] at hC
    match l, hC with
    | [x0, x1, x2, x3, x4, x5, x6, x7, x8, x9, x10], _ => rfl
  rw [e] at h1
  exact h1
end Q
end Go.Proofs.Ytfjkelngdljikaa
