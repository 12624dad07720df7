/-
  Layer 29 in memory: a table of numbers, the state (numbers, owners, columns). By an AI agent.
-/
import Derived.StillTailTactics
import Derived.Deep.QuietTactic
import Derived.Lib.Hide
import Derived.Deep.MidRow
import Derived.Test.YtoemhphgnpedmaaAppend
import Derived.Test.YtoemhphgnpedmaaGrow
import Derived.Test.YtoemhphgnpedmaaAPlain4
import Derived.Test.YtoemhphgnpedmaaProg
namespace Go.Proofs.Ytoemhphgnpedmaa
open Go.RowKit

namespace C
/-- A row of cells as a function. -/
def arr (n : Nat) (f : Nat → Value) : Array Value := ((List.range n).map f).toArray
theorem arr_size (n : Nat) (f : Nat → Value) : (arr n f).size = n := by simp [arr]
theorem arr_get {n : Nat} (f : Nat → Value) {i : Nat} (h : i < n) : (arr n f)[i]? = some (f i) := by simp [arr, h]
theorem arr_set {n : Nat} (f : Nat → Value) {i : Nat} (x : Value) (h : i < n) : (arr n f).setIfInBounds i x = arr n (A.upd f i x) := by
  refine Array.ext (by simp [arr]) fun j h1 h2 => ?_
  simp only [Array.getElem_setIfInBounds, arr, List.getElem_toArray, List.getElem_map, List.getElem_range, A.upd]
  split <;> rename_i hh
  · subst hh; simp
  · simp [Ne.symm hh]
theorem arr_congr {n : Nat} {f g : Nat → Value} (h : ∀ i, i < n → f i = g i) : arr n f = arr n g := by
  unfold arr; congr 1
  exact List.map_congr_left fun i hi => h i (List.mem_range.1 hi)

/-- The state's cells. -/
def stf (u v : Nat → Int) (p q : Nat → Nat) (i : Nat) : Value := .int .i64 (if i < 41 then u i else if i < 82 then v (i - 41) else if i < 123 then (p (i - 82) : Int) else (q (i - 123) : Int))
def stA (u v : Nat → Int) (p q : Nat → Nat) : Array Value := arr 164 (stf u v p q)
section
variable (u v : Nat → Int) (p q : Nat → Nat) {i : Nat}
theorem stA_u (h : i ≤ 40) : (stA u v p q)[i]? = some (.int .i64 (u i)) := by rw [stA, arr_get _ (by omega), stf, if_pos (by omega)]
theorem stA_v (h : i ≤ 40) : (stA u v p q)[41 + i]? = some (.int .i64 (v i)) := by rw [stA, arr_get _ (by omega), stf, if_neg (by omega), if_pos (by omega), Nat.add_sub_cancel_left]
theorem stA_p (h : i ≤ 40) : (stA u v p q)[82 + i]? = some (.int .i64 (p i)) := by rw [stA, arr_get _ (by omega), stf, if_neg (by omega), if_neg (by omega), if_pos (by omega), Nat.add_sub_cancel_left]
theorem stA_q (h : i ≤ 40) : (stA u v p q)[123 + i]? = some (.int .i64 (q i)) := by rw [stA, arr_get _ (by omega), stf, if_neg (by omega), if_neg (by omega), if_neg (by omega), Nat.add_sub_cancel_left]
theorem stA_set_u (x : Int) (h : i ≤ 40) : (stA u v p q).setIfInBounds i (.int .i64 x) = stA (A.upd u i x) v p q := by
  rw [stA, arr_set _ _ (by omega)]
  refine arr_congr fun j hj => ?_
  unfold A.upd stf
  by_cases e : j = i
  · subst e; rw [if_pos rfl, if_pos (by omega)]; simp
  · rw [if_neg e]
    by_cases h1 : j < 41
    · rw [if_pos h1, if_pos h1]; simp [e]
    · rw [if_neg h1, if_neg h1]
theorem stA_set_v (x : Int) (h : i ≤ 40) : (stA u v p q).setIfInBounds (41 + i) (.int .i64 x) = stA u (A.upd v i x) p q := by
  rw [stA, arr_set _ _ (by omega)]
  refine arr_congr fun j hj => ?_
  unfold A.upd stf
  by_cases e : j = 41 + i
  · subst e; rw [if_pos rfl, if_neg (by omega), if_pos (by omega)]; simp
  · rw [if_neg e]
    by_cases h1 : j < 41
    · rw [if_pos h1, if_pos h1]
    · rw [if_neg h1, if_neg h1]
      by_cases h2 : j < 82
      · rw [if_pos h2, if_pos h2]; have e2 : ¬ j - 41 = i := by omega
        simp [e2]
      · rw [if_neg h2, if_neg h2]
theorem stA_set_p (x : Nat) (h : i ≤ 40) : (stA u v p q).setIfInBounds (82 + i) (.int .i64 x) = stA u v (A.upd p i x) q := by
  rw [stA, arr_set _ _ (by omega)]
  refine arr_congr fun j hj => ?_
  unfold A.upd stf
  by_cases e : j = 82 + i
  · subst e; rw [if_pos rfl, if_neg (by omega), if_neg (by omega), if_pos (by omega)]; simp
  · rw [if_neg e]
    by_cases h1 : j < 41
    · rw [if_pos h1, if_pos h1]
    · rw [if_neg h1, if_neg h1]
      by_cases h2 : j < 82
      · rw [if_pos h2, if_pos h2]
      · rw [if_neg h2, if_neg h2]
        by_cases h3 : j < 123
        · rw [if_pos h3, if_pos h3]; have e2 : ¬ j - 82 = i := by omega
          simp [e2]
        · rw [if_neg h3, if_neg h3]
theorem stA_set_q (x : Nat) (h : i ≤ 40) : (stA u v p q).setIfInBounds (123 + i) (.int .i64 x) = stA u v p (A.upd q i x) := by
  rw [stA, arr_set _ _ (by omega)]
  refine arr_congr fun j hj => ?_
  unfold A.upd stf
  by_cases e : j = 123 + i
  · subst e; rw [if_pos rfl, if_neg (by omega), if_neg (by omega), if_neg (by omega)]; simp
  · rw [if_neg e]
    by_cases h1 : j < 41
    · rw [if_pos h1, if_pos h1]
    · rw [if_neg h1, if_neg h1]
      by_cases h2 : j < 82
      · rw [if_pos h2, if_pos h2]
      · rw [if_neg h2, if_neg h2]
        by_cases h3 : j < 123
        · rw [if_pos h3, if_pos h3]
        · rw [if_neg h3, if_neg h3]; have e2 : ¬ j - 123 = i := by omega
          simp [e2]
end

theorem blk_cell {w : World} {N : Nat} {c : Array Value} {t : TypeId} (h : w.heap[N]? = some (.cells c t (0, 0))) (j : Nat) : w.cell? ⟨N, j, none⟩ = c[j]? := by simp [World.cell?, h]
theorem blk_frozen {w : World} {N : Nat} {c : Array Value} {t : TypeId} (h : w.heap[N]? = some (.cells c t (0, 0))) (j : Nat) : w.frozen? ⟨N, j, none⟩ = false := by simp [World.frozen?, h]
theorem heap_new (w : World) (o : Obj) : (w.alloc o).heap[w.heap.size]? = some o := by show (w.heap.push o)[w.heap.size]? = some o; simp

/-- The state lies in block b. -/
def St (w : World) (b : Nat) (u v : Nat → Int) (p q : Nat → Nat) : Prop := w.heap[b]? = some (.cells (stA u v p q) 52 (0, 0))
section
variable {w w' : World} {b : Nat} {u v : Nat → Int} {p q : Nat → Nat} {i : Nat}
theorem St.u_ (h : St w b u v p q) (hi : i ≤ 40) : w.cell? ⟨b, i, none⟩ = some (.int .i64 (u i)) := (blk_cell h _).trans (stA_u u v p q hi)
theorem St.v_ (h : St w b u v p q) (hi : i ≤ 40) : w.cell? ⟨b, 41 + i, none⟩ = some (.int .i64 (v i)) := (blk_cell h _).trans (stA_v u v p q hi)
theorem St.p_ (h : St w b u v p q) (hi : i ≤ 40) : w.cell? ⟨b, 82 + i, none⟩ = some (.int .i64 (p i)) := (blk_cell h _).trans (stA_p u v p q hi)
theorem St.q_ (h : St w b u v p q) (hi : i ≤ 40) : w.cell? ⟨b, 123 + i, none⟩ = some (.int .i64 (q i)) := (blk_cell h _).trans (stA_q u v p q hi)
theorem St.fz (h : St w b u v p q) (j : Nat) : w.frozen? ⟨b, j, none⟩ = false := blk_frozen h j
theorem St.lt (h : St w b u v p q) : b < w.heap.size := (Array.getElem?_eq_some_iff.1 h).1
theorem St.below {B : Nat} (h : St w b u v p q) (hb : Below B w w') (hB : b < B) : St w' b u v p q := (hb.block b hB).trans h
theorem St.drewN (h : St w b u v p q) (n : Nat) : St (w.drewN n) b u v p q := h
theorem St.alloc (h : St w b u v p q) (o : Obj) : St (w.alloc o) b u v p q := (Below.heap_alloc _ _ _ h.lt).trans h
theorem St.other (h : St w b u v p q) {a : Addr} (ha : b ≠ a.block) (x : Value) : St (w.setCell a x) b u v p q := (heap_setCell_other w a b x ha).trans h
theorem St.set_u (h : St w b u v p q) (hi : i ≤ 40) (x : Int) : St (w.setCell ⟨b, i, none⟩ (.int .i64 x)) b (A.upd u i x) v p q := by
  have := heap_setCell_same w b i _ 52 (.int .i64 x) h
  rwa [stA_set_u u v p q x hi] at this
theorem St.set_v (h : St w b u v p q) (hi : i ≤ 40) (x : Int) : St (w.setCell ⟨b, 41 + i, none⟩ (.int .i64 x)) b u (A.upd v i x) p q := by
  have := heap_setCell_same w b (41 + i) _ 52 (.int .i64 x) h
  rwa [stA_set_v u v p q x hi] at this
theorem St.set_p (h : St w b u v p q) (hi : i ≤ 40) (x : Nat) : St (w.setCell ⟨b, 82 + i, none⟩ (.int .i64 x)) b u v (A.upd p i x) q := by
  have := heap_setCell_same w b (82 + i) _ 52 (.int .i64 x) h
  rwa [stA_set_p u v p q x hi] at this
theorem St.set_q (h : St w b u v p q) (hi : i ≤ 40) (x : Nat) : St (w.setCell ⟨b, 123 + i, none⟩ (.int .i64 x)) b u v p (A.upd q i x) := by
  have := heap_setCell_same w b (123 + i) _ 52 (.int .i64 x) h
  rwa [stA_set_q u v p q x hi] at this
end

/-- A row of 41 integers in block b. -/
def Ar (w : World) (b : Nat) (f : Nat → Int) : Prop := w.heap[b]? = some (.cells (arr 41 fun i => .int .i64 (f i)) 50 (0, 0))
/-- A row of 41 bools in block b. -/
def Br (w : World) (b : Nat) (f : Nat → Bool) : Prop := w.heap[b]? = some (.cells (arr 41 fun i => .bool (f i)) 68 (0, 0))
section
variable {w w' : World} {b : Nat} {f : Nat → Int} {g : Nat → Bool} {i : Nat}
theorem Ar.at_ (h : Ar w b f) (hi : i ≤ 40) : w.cell? ⟨b, i, none⟩ = some (.int .i64 (f i)) := (blk_cell h _).trans (arr_get (fun i => .int .i64 (f i)) (by omega))
theorem Br.at_ (h : Br w b g) (hi : i ≤ 40) : w.cell? ⟨b, i, none⟩ = some (.bool (g i)) := (blk_cell h _).trans (arr_get (fun i => .bool (g i)) (by omega))
theorem Ar.fz (h : Ar w b f) (j : Nat) : w.frozen? ⟨b, j, none⟩ = false := blk_frozen h j
theorem Br.fz (h : Br w b g) (j : Nat) : w.frozen? ⟨b, j, none⟩ = false := blk_frozen h j
theorem Ar.lt (h : Ar w b f) : b < w.heap.size := (Array.getElem?_eq_some_iff.1 h).1
theorem Br.lt (h : Br w b g) : b < w.heap.size := (Array.getElem?_eq_some_iff.1 h).1
theorem Ar.below {B : Nat} (h : Ar w b f) (hb : Below B w w') (hB : b < B) : Ar w' b f := (hb.block b hB).trans h
theorem Br.below {B : Nat} (h : Br w b g) (hb : Below B w w') (hB : b < B) : Br w' b g := (hb.block b hB).trans h
theorem Ar.drewN (h : Ar w b f) (n : Nat) : Ar (w.drewN n) b f := h
theorem Br.drewN (h : Br w b g) (n : Nat) : Br (w.drewN n) b g := h
theorem Ar.other (h : Ar w b f) {a : Addr} (ha : b ≠ a.block) (x : Value) : Ar (w.setCell a x) b f := (heap_setCell_other w a b x ha).trans h
theorem Br.other (h : Br w b g) {a : Addr} (ha : b ≠ a.block) (x : Value) : Br (w.setCell a x) b g := (heap_setCell_other w a b x ha).trans h
theorem Ar.set (h : Ar w b f) (hi : i ≤ 40) (x : Int) : Ar (w.setCell ⟨b, i, none⟩ (.int .i64 x)) b (A.upd f i x) := by
  have := heap_setCell_same w b i _ 50 (.int .i64 x) h
  rw [arr_set _ _ (by omega)] at this
  rw [show A.upd (fun i => Value.int IntKind.i64 (f i)) i (.int .i64 x) = fun j => .int .i64 (A.upd f i x j) from by funext j; unfold A.upd; split <;> rfl] at this
  exact this
theorem Br.set (h : Br w b g) (hi : i ≤ 40) (x : Bool) : Br (w.setCell ⟨b, i, none⟩ (.bool x)) b (A.upd g i x) := by
  have := heap_setCell_same w b i _ 68 (.bool x) h
  rw [arr_set _ _ (by omega)] at this
  rw [show A.upd (fun i => Value.bool (g i)) i (.bool x) = fun j => .bool (A.upd g i x j) from by funext j; unfold A.upd; split <;> rfl] at this
  exact this
theorem Ar.alloc (h : Ar w b f) (o : Obj) : Ar (w.alloc o) b f := (Below.heap_alloc _ _ _ h.lt).trans h
theorem Br.alloc (h : Br w b g) (o : Obj) : Br (w.alloc o) b g := (Below.heap_alloc _ _ _ h.lt).trans h
end

/-- The costs: rows (address, capacity, numbers). -/
def slv (r : Option Addr × Nat × List Int) : Value := .slice r.1 r.2.2.length r.2.1
def ns (l : List Int) : List Value := l.map (Value.int .i64)
structure Mx (w : World) (B : Nat) (A : Option Addr) (rs : List (Option Addr × Nat × List Int)) : Prop where
  row : Reads w B 1 A rs.length (rs.map slv)
  each : ∀ r ∈ rs, Reads w B 1 r.1 r.2.2.length (ns r.2.2) ∧ r.2.2.length ≤ maxLen
  len : rs.length ≤ maxLen
section
variable {w w' : World} {B B' : Nat} {A : Option Addr} {rs : List (Option Addr × Nat × List Int)}
theorem Mx.below (h : Mx w B A rs) (hb : Below B' w w') (hB : B ≤ B') : Mx w' B A rs := ⟨h.row.below hb hB, fun r hr => let ⟨h1, h2⟩ := h.each r hr; ⟨h1.below hb hB, h2⟩, h.len⟩
theorem Mx.more (h : Mx w B A rs) (hB : B ≤ B') : Mx w B' A rs := ⟨h.row.more hB, fun r hr => let ⟨h1, h2⟩ := h.each r hr; ⟨h1.more hB, h2⟩, h.len⟩
theorem Mx.drewN (h : Mx w B A rs) (n : Nat) : Mx (w.drewN n) B A rs := h.below (below_drewN (Below.refl _ _) n) (Nat.le_refl _)
theorem Mx.keep (h : Mx w B A rs) (hk : ∀ p : Addr, p.block < B → w'.cell? p = w.cell? p) : Mx w' B A rs := ⟨h.row.keep hk, fun r hr => let ⟨h1, h2⟩ := h.each r hr; ⟨h1.keep hk, h2⟩, h.len⟩
theorem Mx.at_ (h : Mx w B A rs) (hn : 0 < rs.length) :
    ∃ b off, A = some ⟨b, off, none⟩ ∧ b < B ∧ ∀ k (hk : k < rs.length), w.cell? ⟨b, off + k, none⟩ = some (.slice rs[k].1 rs[k].2.2.length rs[k].2.1) := by
  obtain ⟨b, off, hA, hb, hc⟩ := h.row.flat hn (by decide)
  exact ⟨b, off, hA, hb, fun k hk => hc k _ (by simp [hk, slv])⟩
theorem nums_at {l : List Int} {A' : Option Addr} (h : Reads w B 1 A' l.length (ns l)) (hn : 0 < l.length) :
    ∃ b off, A' = some ⟨b, off, none⟩ ∧ b < B ∧ ∀ k (hk : k < l.length), w.cell? ⟨b, off + k, none⟩ = some (.int .i64 l[k]) := by
  obtain ⟨b, off, hA, hb, hc⟩ := h.flat hn (by decide)
  exact ⟨b, off, hA, hb, fun k hk => hc k _ (by simp [hk, ns])⟩
end
/-- The numbers of the rows. -/
def mt (rs : List (Option Addr × Nat × List Int)) : List (List Int) := rs.map (·.2.2)
/-- The cost of a row and a column, counted from 1. -/
def cst (m : List (List Int)) (r j : Nat) : Int := (m.getD (r - 1) []).getD (j - 1) 0
/-- A square table of costs. -/
def Sq (m : List (List Int)) : Prop := m.length ≤ 40 ∧ (∀ l ∈ m, l.length = m.length) ∧ ∀ l ∈ m, ∀ x ∈ l, 0 ≤ x ∧ x ≤ A.M
theorem cst_at (rs : List (Option Addr × Nat × List Int)) {i j : Nat} (hi : i < rs.length) (hj : j < rs[i].2.2.length) : cst (mt rs) (i + 1) (j + 1) = rs[i].2.2[j] := by
  simp [cst, mt, List.getD, hi, hj]
theorem cst_range {m : List (List Int)} (h : Sq m) (r j : Nat) (h1 : 1 ≤ r) (h2 : r ≤ m.length) (h3 : 1 ≤ j) (h4 : j ≤ m.length) : 0 ≤ cst m r j ∧ cst m r j ≤ A.M := by
  have hr : r - 1 < m.length := by omega
  have hj : j - 1 < m[r - 1].length := by rw [h.2.1 _ (List.getElem_mem hr)]; omega
  have e : cst m r j = m[r - 1][j - 1] := by simp [cst, List.getD, hr, hj]
  rw [e]
  exact h.2.2 _ (List.getElem_mem hr) _ (List.getElem_mem hj)
end C
end Go.Proofs.Ytoemhphgnpedmaa
