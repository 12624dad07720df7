/-
  Layer 29 in memory: the whole state read, written and made; the result's reading. By an AI agent.
-/
import Derived.Test.YtoemhphgnpedmaaIns
namespace Go.Proofs.Ytoemhphgnpedmaa
open Go.RowKit

namespace C
def setL : Array Value → Nat → List Value → Array Value
  | c, _, [] => c
  | c, o, v :: r => setL (c.setIfInBounds o v) (o + 1) r
theorem setL_size : ∀ (vs : List Value) (c : Array Value) (o : Nat), (setL c o vs).size = c.size
  | [], _, _ => rfl
  | v :: r, c, o => by rw [setL, setL_size r]; simp
theorem setL_get : ∀ (vs : List Value) (c : Array Value) (o : Nat), o + vs.length ≤ c.size → ∀ j, (setL c o vs)[j]? = if o ≤ j ∧ j < o + vs.length then vs[j - o]? else c[j]?
  | [], c, o, _, j => by rw [setL, if_neg (by simp <;> omega)]
  | v :: r, c, o, h, j => by
    simp only [List.length_cons] at h
    rw [setL, setL_get r _ _ (by simp; omega)]
    by_cases h1 : o + 1 ≤ j ∧ j < o + 1 + r.length
    · rw [if_pos h1, if_pos (by simp; omega), show j - o = (j - (o + 1)) + 1 by omega, List.getElem?_cons_succ]
    · rw [if_neg h1, Array.getElem?_setIfInBounds]
      by_cases h2 : o = j
      · subst h2
        rw [if_pos rfl, if_pos (by omega), if_pos (by simp)]; simp
      · rw [if_neg h2, if_neg (by simp; omega)]
theorem setL_all {vs : List Value} {c : Array Value} (h : vs.length = c.size) : setL c 0 vs = vs.toArray := by
  refine Array.ext (by rw [setL_size]; simp [h]) fun j h1 h2 => ?_
  have := setL_get vs c 0 (by omega) j
  have h4 : j < vs.length := by simpa using h2
  rw [if_pos ⟨Nat.zero_le _, by omega⟩, Nat.sub_zero] at this
  rw [Array.getElem?_eq_getElem h1] at this
  have h3 : j < vs.length := by simpa using h2
  rw [List.getElem?_eq_getElem h3] at this
  injection this with this
theorem heap_setCells (b : Nat) (t : TypeId) : ∀ (vs : List Value) (o : Nat) (w : World) (c : Array Value), w.heap[b]? = some (.cells c t (0, 0)) → (w.setCells b o vs).heap[b]? = some (.cells (setL c o vs) t (0, 0))
  | [], _, _, _, h => h
  | v :: r, o, w, c, h => heap_setCells b t r (o + 1) _ _ (heap_setCell_same w b o c t v h)
theorem only_setCells {a : World} {g : Nat} : ∀ (vs : List Value) (o : Nat) (w : World), a.grownBy w (some g) → a.grownBy (w.setCells g o vs) (some g)
  | [], _, _, h => h
  | v :: r, o, w, h => only_setCells r (o + 1) _ (only_setCell h (.inl rfl) v)
theorem stA_size (u v : Nat → Int) (p q : Nat → Nat) : (stA u v p q).size = 164 := arr_size _ _
theorem stA_one (u v : Nat → Int) (p q : Nat → Nat) : (stA u v p q).all (·.oneCell') = true := by
  refine Array.all_eq_true_iff_forall_mem.2 fun x hx => ?_
  simp only [stA, arr, List.mem_toArray, List.mem_map] at hx
  obtain ⟨i, _, rfl⟩ := hx
  rfl
theorem St.range {w : World} {b : Nat} {u v : Nat → Int} {p q : Nat → Nat} (h : St w b u v p q) : w.rangeAt b 0 (stA u v p q).toList := fun j x hx => by
  rw [Nat.zero_add, blk_cell h]
  simpa using hx
theorem St.there {w : World} {b : Nat} {u v : Nat → Int} {p q : Nat → Nat} (h : St w b u v p q) : w.there b 0 164 := fun j hj => by
  rw [Nat.zero_add, blk_cell h]
  refine ⟨?_, blk_frozen h j⟩
  rw [Array.getElem?_eq_getElem (by rw [stA_size]; exact hj)]; rfl
theorem info45 : (Try.prog.info? 52).map (·.size) = some 164 := by kernel_rfl
theorem run_load_st {w : World} {b : Nat} {u v : Nat → Int} {p q : Nat → Nat} (h : St w b u v p q) : (loadVar 52 ⟨b, 0, none⟩).run Try.prog w = .ok (.agg (stA u v p q)) w := by
  have := run_loadVar_mid (P := Try.prog) w b 0 52 (stA u v p q).toList _ h.range Try.underlying52 rfl (by rw [info45, Array.length_toList, stA_size])
  simpa using this
end C

theorem results_cell {fn : Func} {t : Tmp} {ty : TypeId} (h : fn.results = #[.cell t ty]) {tmps : Array Value} {b : Nat} (ht : tmps.getD t undef = .pointer (some ⟨b, 0, none⟩)) {P : Program} {w : World} {v : Value} (hl : (loadVar ty ⟨b, 0, none⟩).run P w = .ok v w) :
    (results fn tmps).run P w = .ok v w := by
  have ht2 : tmps[t]?.getD undef = .pointer (some ⟨b, 0, none⟩) := by rw [← ht]; simp [Array.getD_eq_getD_getElem?]
  simp [results, h, ht2, asAddr, hl]
theorem wpList_load_st {ops : Array Oper} {rest : List Oper} {op : Oper} {a : Act} {w : World} {Q : Exit → Act → World → Prop} (hgd : op.guard = none) (x : Operand) (ho : op.op = .load 52 x)
    (b : Nat) (hx : a.eval x = .pointer (some ⟨b, 0, none⟩)) (u v : Nat → Int) (p q : Nat → Nat) (hs : C.St w b u v p q)
    (h : wpList Try.prog ops Q rest (a.put op.dst (.agg (C.stA u v p q))) w) : wpList Try.prog ops Q (op :: rest) a w :=
  wpList_load_mid hgd 52 x ho b 0 hx (C.stA u v p q).toList _ hs.range Try.underlying52 rfl (by rw [C.info45, Array.length_toList, C.stA_size]) (by simpa using h)
theorem wpList_store_st {ops : Array Oper} {rest : List Oper} {op : Oper} {a : Act} {w : World} {Q : Exit → Act → World → Prop} (hgd : op.guard = none) (x y : Operand) (ho : op.op = .store 52 x y)
    (b : Nat) (hx : a.eval x = .pointer (some ⟨b, 0, none⟩)) (u v : Nat → Int) (p q : Nat → Nat) (hy : a.eval y = .agg (C.stA u v p q)) (u0 v0 : Nat → Int) (p0 q0 : Nat → Nat) (hs : C.St w b u0 v0 p0 q0)
    (h : ∀ w', C.St w' b u v p q → w.grownBy w' (some b) → w'.heap.size = w.heap.size → wpList Try.prog ops Q rest (a.put op.dst undef) w') : wpList Try.prog ops Q (op :: rest) a w := by
  refine wpList_store_mid hgd 52 x y ho b 0 (C.stA u v p q) hx hy (by rw [C.stA_size]; exact hs.there) (by rw [C.info45, C.stA_size]) (C.stA_one u v p q) (h _ ?_ (C.only_setCells _ _ _ (World.grownBy.refl w _)) ?_)
  · have := C.heap_setCells b 52 (C.stA u v p q).toList 0 w _ hs
    rw [C.setL_all (by rw [Array.length_toList, C.stA_size, C.stA_size])] at this
    simpa [C.St] using this
  · have : ∀ (vs : List Value) (o : Nat) (w : World), (w.setCells b o vs).heap.size = w.heap.size := by
      intro vs
      induction vs with
      | nil => intro o w; rfl
      | cons x r ih => intro o w; rw [World.setCells, ih]; simp [World.setCell]
    exact this _ _ _
theorem wpList_alloc_at {P : Program} {ops : Array Oper} {rest : List Oper} {o : Oper} {a : Act} {w : World} {Q : Exit → Act → World → Prop} (hg : o.guard = none) (t : TypeId) (ho : o.op = .alloc t)
    (z : Value) (hz : ∀ w : World, (zeroValue t).run P w = .ok z w) (cells : Array Value) (hc : z.cells = cells)
    (h : wpList P ops Q rest (a.put o.dst (.pointer (some ⟨w.heap.size, 0, none⟩))) (w.alloc (.cells cells t))) : wpList P ops Q (o :: rest) a w := by
  subst hc
  refine wpList_plain hg fun K hK => ?_
  unfold Oper.wp execOp
  simp only [ho, Sem.run_bind, Instr.alloc, newVar, newRow, run_newObj_alloc, Sem.run_pure, Result.andThen_ok, hz]
  exact hK _ _ h
end Go.Proofs.Ytoemhphgnpedmaa
