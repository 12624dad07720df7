/-
  Changes in memory of the call's own. No walk. By an AI agent.
-/
import Derived.Test.YteakiielcmgkeaaChg
import Derived.Test.YteakiielcmgkeaaEds
namespace Go.Proofs.Yteakiielcmgkeaa
open Go.RowKit

theorem own_apart {W : World} {b b' s s' n n' : Nat} {e e' : TypeId} {v v' : Value} {xs xs' : List Value} (h : W.ownsRow b e s v n xs) (h' : W.ownsRow b' e' s' v' n' xs') (ne : e ≠ e') : ∀ g, v.ownBlock = some g → v'.ownBlock ≠ some g := by
  intro g hg hg'
  obtain ⟨cur, h1⟩ := E.own_type h hg
  obtain ⟨cur', h2⟩ := E.own_type h' hg'
  rw [h1] at h2
  simp only [Option.some.injEq, Obj.cells.injEq] at h2
  exact ne h2.2.1
theorem kept_of {W W' : World} {b s n : Nat} {e : TypeId} {v v' : Value} {xs : List Value} (h : W.ownsRow b e s v n xs) (hg : W.grownBy W' v'.ownBlock) (ha : ∀ g, v.ownBlock = some g → v'.ownBlock ≠ some g) : W'.ownsRow b e s v n xs := by
  refine h.kept hg ?_
  cases hv : v.ownBlock with
  | none => exact .inl rfl
  | some g => exact .inr (fun e => ha g hv e.symm)
theorem heap_kept {W W' : World} {b s n : Nat} {e : TypeId} {v : Value} {xs : List Value} (h : W.ownsRow b e s v n xs) (hg : W.grownBy W' v.ownBlock) {g : Nat} {C : Array Value} {t : TypeId} (hc : W.heap[g]? = some (.cells C t (0, 0))) (ne : t ≠ e) : W'.heap[g]? = some (.cells C t (0, 0)) := by
  rw [← hc]
  refine hg.block g (Array.getElem?_eq_some_iff.1 hc).1 ?_
  intro hx
  obtain ⟨cur, h1⟩ := E.own_type h hx.symm
  rw [h1] at hc
  simp only [Option.some.injEq, Obj.cells.injEq] at hc
  exact ne hc.2.1.symm
theorem own_cap {w : World} {base : Nat} {e : TypeId} {size n g cg : Nat} {xs : List Value} (h : w.ownsRow base e size (.slice (some ⟨g, 0, none⟩) n cg) n xs) : n ≤ cg := by
  rcases h.2 with ⟨h, _⟩ | ⟨g', cap, cur, h, _, _, hnc, _⟩
  · cases h
  · injection h with h1 h2 h3; omega
theorem own_reads_cap {w : World} {base : Nat} {e : TypeId} {size n : Nat} {v : Value} {xs : List Value} (h : w.ownsRow base e size v n xs) : ∃ A c, v = .slice A n c ∧ Reads w w.heap.size size A n xs ∧ n ≤ c := by
  rcases Nat.eq_zero_or_pos n with h0 | h0
  · obtain ⟨A, c, hv, hr⟩ := own_reads h
    exact ⟨A, c, hv, hr, by omega⟩
  · obtain ⟨g, c, rfl, _, _⟩ := h.form h0
    exact ⟨_, _, rfl, Reads.of_own h, own_cap h⟩
namespace R
/-- Changes in memory of the call's own: a row, and a row of glyphs for each. -/
structure Own (base : Nat) (W : World) (v : Value) (xs : List Cs) : Prop where
  row : W.ownsRow base 29 6 v xs.length (ccs xs)
  gl : ∀ x ∈ xs, W.ownsRow base 33 3 x.sl x.c.gl.length (gcs x.c.gl)
variable {base : Nat} {W W' : World} {v v' : Value} {xs : List Cs}
theorem Own.nil (W : World) : Own base W (.slice none 0 0) [] := ⟨World.ownsRow_nil _ _ _ _, fun _ h => by cases h⟩
theorem Own.below (h : Own base W v xs) (hb : Below W.heap.size W W') : Own base W' v xs := ⟨own_under h.row hb, fun x hx => own_under (h.gl x hx) hb⟩
theorem Own.lower {base' : Nat} (h : Own base W v xs) (hb : base' ≤ base) : Own base' W v xs := ⟨own_lower h.row hb, fun x hx => own_lower (h.gl x hx) hb⟩
/-- One more. -/
theorem Own.push (h : Own base W v xs) {x : Cs} (hx : W.ownsRow base 33 3 x.sl x.c.gl.length (gcs x.c.gl)) (h2 : W'.ownsRow base 29 6 v' (xs.length + 1) (ccs xs ++ x.cells)) (hg : W.grownBy W' v.ownBlock) : Own base W' v' (xs ++ [x]) where
  row := by
    have e1 : (xs ++ [x]).length = xs.length + 1 := by simp
    have e2 : ccs (xs ++ [x]) = ccs xs ++ x.cells := by simp [ccs]
    rw [e1, e2]; exact h2
  gl := fun y hy => by
    have k : W.ownsRow base 33 3 y.sl y.c.gl.length (gcs y.c.gl) := by
      rcases List.mem_append.1 hy with hy | hy
      · exact h.gl y hy
      · simp only [List.mem_singleton] at hy; subst hy; exact hx
    exact kept_of k hg (own_apart k h.row (by decide))
theorem Own.chs (h : Own base W v xs) : ∃ A c, v = .slice A xs.length c ∧ Chs W W.heap.size A xs ∧ xs.length ≤ c := by
  obtain ⟨A, c, hv, hr, hc⟩ := own_reads_cap h.row
  refine ⟨A, c, hv, ⟨hr, fun x hx => ?_⟩, hc⟩
  obtain ⟨A', c', hv', hr', hc'⟩ := own_reads_cap (h.gl x hx)
  exact ⟨A', c', hv', hr', hc'⟩
/-- A single change in a block just laid. -/
theorem own_one (W : World) (x : Cs) (hb : base ≤ W.heap.size) (hx : W.ownsRow base 33 3 x.sl x.c.gl.length (gcs x.c.gl)) : Own base (W.alloc (.cells x.cells.toArray 29)) (.slice (some ⟨W.heap.size, 0, none⟩) 1 1) [x] where
  row := by
    have h := World.ownsRow_lit (base := base) (e := 29) (size := 6) W x.cells.toArray 1 hb (by decide) rfl
    have e : ccs [x] = x.cells.toArray.toList := by simp [ccs]
    rw [e]; exact h
  gl := fun y hy => by
    simp only [List.mem_singleton] at hy; subst hy
    exact hx.alloc _
theorem ccs_one {xs : List Cs} (h : ∀ x ∈ xs, ∃ A n c, x.sl = .slice A n c) : ∀ u ∈ ccs xs, u.oneCell' = true := by
  intro u hu
  simp only [ccs, List.mem_flatMap, Cs.cells, List.mem_cons, List.not_mem_nil, or_false] at hu
  obtain ⟨x, hx, h'⟩ := hu
  obtain ⟨A, n, c, e⟩ := h x hx
  rcases h' with rfl | rfl | rfl | rfl | rfl | rfl
  · rfl
  · rfl
  · rfl
  · rfl
  · rfl
  · rw [e]; rfl
end R
end Go.Proofs.Yteakiielcmgkeaa
