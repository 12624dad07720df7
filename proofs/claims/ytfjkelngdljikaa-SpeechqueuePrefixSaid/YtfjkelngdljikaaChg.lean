/-
  Changes in memory. No walk. By an AI agent.
-/
import Derived.Test.YtfjkelngdljikaaGl
namespace Go.Proofs.Ytfjkelngdljikaa
set_option linter.unusedVariables false
open Go.RowKit

namespace R
/-- A change. -/
structure Cx where
  kind : Int
  row : Int
  col : Int
  count : Int
  to : Int
  gl : List G
deriving DecidableEq
/-- A change with the slice of its glyphs. -/
structure Cs where
  c : Cx
  sl : Value
def Cs.cells (x : Cs) : List Value := [.int .i64 x.c.kind, .int .i64 x.c.row, .int .i64 x.c.col, .int .i64 x.c.count, .int .i64 x.c.to, x.sl]
theorem Cs.cells_len (x : Cs) : x.cells.length = 6 := rfl
def ccs (l : List Cs) : List Value := l.flatMap Cs.cells
/-- Changes in memory. -/
structure Chs (w : World) (B : Nat) (A : Option Addr) (xs : List Cs) : Prop where
  row : Reads w B 6 A xs.length (ccs xs)
  gl : ∀ x ∈ xs, ∃ A' c, x.sl = .slice A' x.c.gl.length c ∧ Reads w B 3 A' x.c.gl.length (gcs x.c.gl) ∧ x.c.gl.length ≤ c
theorem Chs.below {w w' : World} {B B₁ : Nat} {A : Option Addr} {xs : List Cs} (h : Chs w B A xs) (hb : Below B₁ w w') (hB : B ≤ B₁) : Chs w' B A xs :=
  ⟨h.row.below hb hB, fun x hx => let ⟨A', c, h1, h2, h3⟩ := h.gl x hx; ⟨A', c, h1, h2.below hb hB, h3⟩⟩
theorem Chs.drewN {w : World} {B : Nat} {A : Option Addr} {xs : List Cs} (h : Chs w B A xs) (n : Nat) : Chs (w.drewN n) B A xs :=
  ⟨h.row.drewN n, fun x hx => let ⟨A', c, h1, h2, h3⟩ := h.gl x hx; ⟨A', c, h1, h2.drewN n, h3⟩⟩
theorem Chs.more {w : World} {B B' : Nat} {A : Option Addr} {xs : List Cs} (h : Chs w B A xs) (hB : B ≤ B') : Chs w B' A xs :=
  ⟨h.row.more hB, fun x hx => let ⟨A', c, h1, h2, h3⟩ := h.gl x hx; ⟨A', c, h1, h2.more hB, h3⟩⟩
/-- The cells of a change at a place. -/
structure CAt (w : World) (b o : Nat) (x : Cs) : Prop where
  c0 : w.cell? ⟨b, o, none⟩ = some (.int .i64 x.c.kind)
  c1 : w.cell? ⟨b, o + 1, none⟩ = some (.int .i64 x.c.row)
  c2 : w.cell? ⟨b, o + 2, none⟩ = some (.int .i64 x.c.col)
  c3 : w.cell? ⟨b, o + 3, none⟩ = some (.int .i64 x.c.count)
  c4 : w.cell? ⟨b, o + 4, none⟩ = some (.int .i64 x.c.to)
  c5 : w.cell? ⟨b, o + 5, none⟩ = some x.sl
theorem Chs.at_ {w : World} {B : Nat} {A : Option Addr} {xs : List Cs} (h : Chs w B A xs) (hn : 0 < xs.length) :
    ∃ b off, A = some ⟨b, off, none⟩ ∧ b < B ∧ ∀ k (hk : k < xs.length), CAt w b (off + k * 6) xs[k] := by
  obtain ⟨b, off, e, hb, hc⟩ := h.row.flat hn (by decide)
  refine ⟨b, off, e, hb, fun k hk => ?_⟩
  have hg : ∀ j, j < 6 → (ccs xs)[k * 6 + j]? = (xs[k].cells)[j]? := fun j hj => by
    unfold ccs
    rw [flat_get Cs.cells 6 xs Cs.cells_len k j hj, List.getElem?_eq_getElem hk]
    rfl
  exact ⟨hc (k * 6 + 0) _ (hg 0 (by decide)), hc (k * 6 + 1) _ (hg 1 (by decide)), hc (k * 6 + 2) _ (hg 2 (by decide)), hc (k * 6 + 3) _ (hg 3 (by decide)), hc (k * 6 + 4) _ (hg 4 (by decide)), hc (k * 6 + 5) _ (hg 5 (by decide))⟩

end R
end Go.Proofs.Ytfjkelngdljikaa
