/-
  Tables of numbers in memory, made row by row from the last: no program in sight. By an AI agent.
-/
import Derived.Deep.OwnRows
import Derived.Test.YteakiielcmgkeaaBase
import Derived.Test.YteakiielcmgkeaaEPlain
namespace Go.Proofs.Yteakiielcmgkeaa
open Go.RowKit Go.Deep

namespace E
def iv : Nat → Value
  | 0 => .int .i64 (-1)
  | j + 1 => .int .i64 j
theorem iv_eq (n : Nat) : Value.int .i64 ((n : Int) - 1) = iv n := by
  cases n with
  | zero => rfl
  | succ j => show Value.int .i64 (((j + 1 : Nat) : Int) - 1) = .int .i64 j; congr 1; omega

/-- The table's own row: the rows from i on are made. TE: the element type of the table; N: its block. -/
def top (N n m i : Nat) : Nat → Value := fun j => if i ≤ j then .slice (some ⟨N + 1 + (n - j), 0, none⟩) (m + 1) (m + 1) else .slice none 0 0

/-- The rows from i on are made and full. -/
structure Tb (T TI N : Nat) (w wr : World) (n m i : Nat) (f : Nat → Nat → Nat) : Prop where
  below : Below N w wr
  size : wr.heap.size = N + 1 + (n + 1 - i)
  top : wr.rowIs N T (n + 1) (top N n m i)
  done : ∀ j, i ≤ j → j ≤ n → wr.rowIs (N + 1 + (n - j)) TI (m + 1) (fun k => .int .i64 (f j k))

/-- Row i is made, its cells from k on are full; the rows behind it are. -/
structure Ti (T TI N : Nat) (w wi : World) (n m i k : Nat) (f : Nat → Nat → Nat) : Prop where
  below : Below N w wi
  size : wi.heap.size = N + 2 + (n - i)
  top : wi.rowIs N T (n + 1) (E.top N n m i)
  done : ∀ j, i < j → j ≤ n → wi.rowIs (N + 1 + (n - j)) TI (m + 1) (fun k => .int .i64 (f j k))
  cur : wi.rowIs (N + 1 + (n - i)) TI (m + 1) (fun j => if k ≤ j then .int .i64 (f i j) else .int .i64 0)

variable {T TI N : Nat} {w wr wi : World} {n m i k : Nat} {f : Nat → Nat → Nat}

/-- The table's own row is made. -/
theorem outer_row (hN : w.heap.size = N) : (w.alloc (.cells (madeCells #[.slice none 0 0] (n + 1)) T)).rowIs N T (n + 1) (top N n m (n + 1)) := by
  have := World.rowIs_made w (.slice none 0 0) (n + 1) T
  rw [hN] at this
  exact this.congr (fun j hj => by simp only [top]; rw [if_neg (by omega)])

/-- No row yet. -/
theorem tb_start (hN : w.heap.size = N) : Tb T TI N w (w.alloc (.cells (madeCells #[.slice none 0 0] (n + 1)) T)) n m (n + 1) f :=
  ⟨(Below.refl N w).alloc (by omega) _, by simp [hN], outer_row hN, fun j h1 h2 => by omega⟩

/-- A row is made and laid into the table. -/
theorem ti_start (hi : i ≤ n) (h : Tb T TI N w wr n m (i + 1) f) (hf : f i m = 0) :
    Ti T TI N w ((wr.alloc (.cells (madeCells #[.int .i64 0] (m + 1)) TI)).setCell ⟨N, i, none⟩ (.slice (some ⟨wr.heap.size, 0, none⟩) (m + 1) (m + 1))) n m i m f := by
  have hnew := World.rowIs_made wr (.int .i64 0) (m + 1) TI
  have hs := h.size
  have e1 : N + 1 + (n + 1 - (i + 1)) = N + 1 + (n - i) := by omega
  rw [hs, e1] at hnew ⊢
  refine ⟨(h.below.alloc (by rw [hs]; omega) _).setCell (Nat.le_refl _) _, by simp [hs] <;> omega, ((h.top.alloc _).set i _).congr (fun j hj => ?_), fun j h1 h2 => ((h.done j (by omega) h2).alloc _).setOther (by show N + 1 + (n - j) ≠ N; omega) _,
    (hnew.setOther (by show N + 1 + (n - i) ≠ N; omega) _).congr (fun j hj => ?_)⟩
  · simp only [E.top]
    by_cases e : j = i
    · subst e; simp
    · rw [if_neg e]
      by_cases hlt : i + 1 ≤ j
      · rw [if_pos hlt, if_pos (by omega)]
      · rw [if_neg hlt, if_neg (by omega)]
  · by_cases e : m ≤ j
    · have : j = m := by omega
      subst this
      rw [if_pos (Nat.le_refl _), hf]; rfl
    · rw [if_neg e]

/-- The first row: the table's last one. -/
theorem ti_first (hN : w.heap.size = N) (hf : f n m = 0) :
    Ti T TI N w (((w.alloc (.cells (madeCells #[.slice none 0 0] (n + 1)) T)).alloc (.cells (madeCells #[.int .i64 0] (m + 1)) TI)).setCell ⟨N, n, none⟩ (.slice (some ⟨N + 1, 0, none⟩) (m + 1) (m + 1))) n m n m f := by
  have hnew := World.rowIs_made (w.alloc (.cells (madeCells #[.slice none 0 0] (n + 1)) T)) (.int .i64 0) (m + 1) TI
  have hs : (w.alloc (.cells (madeCells #[.slice none 0 0] (n + 1)) T)).heap.size = N + 1 := by simp [hN]
  rw [hs] at hnew
  have ho := outer_row (w := w) (T := T) (n := n) (m := m) hN
  refine ⟨(((Below.refl N w).alloc (by omega) _).alloc (by rw [hs]; omega) _).setCell (Nat.le_refl _) _, by simp [hN], ((ho.alloc _).set n _).congr (fun j hj => ?_), fun j h1 h2 => by omega,
    ?_⟩
  · simp only [E.top]
    by_cases e : j = n
    · subst e; simp
    · rw [if_neg e, if_neg (by omega), if_neg (by omega)]
  · rw [Nat.sub_self]
    refine (hnew.setOther (by show N + 1 ≠ N; omega) _).congr (fun j hj => ?_)
    by_cases e : m ≤ j
    · have : j = m := by omega
      subst this
      rw [if_pos (Nat.le_refl _), hf]; rfl
    · rw [if_neg e]

/-- One cell more. -/
theorem ti_step (hin : i ≤ n) (h : Ti T TI N w wi n m i (k + 1) f) : Ti T TI N w (wi.setCell ⟨N + 1 + (n - i), k, none⟩ (.int .i64 (f i k))) n m i k f := by
  refine ⟨h.below.setCell (by show N ≤ N + 1 + (n - i); omega) _, by simp [h.size], h.top.setOther (by show N ≠ N + 1 + (n - i); omega) _,
    fun j h1 h2 => (h.done j h1 h2).setOther (by show N + 1 + (n - j) ≠ N + 1 + (n - i); omega) _, (h.cur.set k _).congr (fun j _ => ?_)⟩
  by_cases e : j = k
  · subst e; simp
  · rw [if_neg e]
    by_cases hlt : k + 1 ≤ j
    · rw [if_pos hlt, if_pos (by omega)]
    · rw [if_neg hlt, if_neg (by omega)]
theorem ti_drew (h : Ti T TI N w wi n m i k f) (q : Nat) : Ti T TI N w (wi.drewN q) n m i k f :=
  ⟨below_drewN h.below q, h.size, h.top, h.done, h.cur⟩

theorem ti_drew1 (h : Ti T TI N w wi n m i k f) : Ti T TI N w wi.drew n m i k f := ⟨h.below.drew, h.size, h.top, h.done, h.cur⟩

/-- The row is full. -/
theorem ti_done (hi : i ≤ n) (h : Ti T TI N w wi n m i 0 f) : Tb T TI N w wi n m i f :=
  ⟨h.below, (by have := h.size; omega), h.top, fun j h1 h2 => by
    by_cases e : j = i
    · subst e; exact h.cur.congr (fun k _ => by rw [if_pos (Nat.zero_le _)])
    · exact h.done j (by omega) h2⟩
theorem ti_done_zero (h : Ti T TI N w wi n m i m f) (hz : ∀ k, k ≤ m → f i k = 0) : Ti T TI N w wi n m i 0 f :=
  ⟨h.below, h.size, h.top, h.done, h.cur.congr (fun k hk => by
    rw [if_pos (Nat.zero_le _)]
    split
    · rfl
    · rw [hz k (by omega)]; rfl)⟩
theorem tb_drew (h : Tb T TI N w wr n m i f) (q : Nat) : Tb T TI N w (wr.drewN q) n m i f :=
  ⟨below_drewN h.below q, h.size, h.top, h.done⟩

/-- What is read of a full table. -/
structure TbR (T TI N : Nat) (w : World) (n m : Nat) (f : Nat → Nat → Nat) : Prop where
  hN : N + 1 + n < w.heap.size
  top : ∀ i, i ≤ n → w.cell? ⟨N, i, none⟩ = some (.slice (some ⟨N + 1 + (n - i), 0, none⟩) (m + 1) (m + 1))
  at_ : ∀ i, i ≤ n → ∀ j, j ≤ m → w.cell? ⟨N + 1 + (n - i), j, none⟩ = some (.int .i64 (f i j))
theorem tb_reads (h : Tb T TI N w wr n m 0 f) : TbR T TI N wr n m f :=
  ⟨by have := h.size; omega, fun i hi => by
    have := h.top.cell (i := i) (by omega)
    simpa [E.top] using this, fun i hi j hj => (h.done i (Nat.zero_le _) hi).cell (by omega)⟩
theorem tbr_below {w w' : World} (h : TbR T TI N w n m f) (hb : Below w.heap.size w w') : TbR T TI N w' n m f :=
  ⟨Nat.lt_of_lt_of_le h.hN hb.size, fun i hi => (hb.cell (p := ⟨N, i, none⟩) (by have := h.hN; show N < _; omega)).trans (h.top i hi),
   fun i hi j hj => (hb.cell (p := ⟨N + 1 + (n - i), j, none⟩) (by have := h.hN; show N + 1 + (n - i) < _; omega)).trans (h.at_ i hi j hj)⟩

/-! The lengths. -/
section
variable {α : Type} [DecidableEq α] (a b : List α)
def L (i j : Nat) : Nat := lcs (a.drop i) (b.drop j)
theorem L_end {i j : Nat} (h : a.length ≤ i ∨ b.length ≤ j) : L a b i j = 0 := by
  unfold L
  rcases h with h | h
  · rw [List.drop_eq_nil_of_le h]; rfl
  · rw [List.drop_eq_nil_of_le h, lcs_nil']
theorem L_eq {i j : Nat} (hi : i < a.length) (hj : j < b.length) (e : a[i] = b[j]) : L a b i j = 1 + L a b (i + 1) (j + 1) := by
  unfold L
  rw [List.drop_eq_getElem_cons hi, List.drop_eq_getElem_cons hj, lcs_cons, if_pos e]
theorem L_ne {i j : Nat} (hi : i < a.length) (hj : j < b.length) (e : a[i] ≠ b[j]) : L a b i j = max (L a b (i + 1) j) (L a b i (j + 1)) := by
  unfold L
  rw [List.drop_eq_getElem_cons hi, List.drop_eq_getElem_cons hj, lcs_cons, if_neg e]
theorem L_le (i j : Nat) : L a b i j ≤ a.length ∧ L a b i j ≤ b.length := by
  unfold L
  have h1 := lcs_le_left (a.drop i) (b.drop j)
  have h2 := lcs_le_right (a.drop i) (b.drop j)
  simp only [List.length_drop] at h1 h2
  omega
end
end E
end Go.Proofs.Yteakiielcmgkeaa
