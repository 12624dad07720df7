/-
  The walks of layer 44: glyphs in memory, their equality. By an AI agent.
-/
import Derived.Laws.StructEq
import Derived.Laws.Small
import Derived.Deep.LoopGhost
import Derived.StillTailTactics
import Derived.Deep.OwnRows
import Derived.Test.YtfjkelngdljikaaProg
import Derived.Test.YtfjkelngdljikaaBase
import Derived.Test.YtfjkelngdljikaaAppend
import Derived.Test.YtfjkelngdljikaaGrow
namespace Go.Proofs.Ytfjkelngdljikaa
set_option linter.unusedVariables false
open Go.RowKit

namespace R
/-- A glyph. -/
structure G where
  t : ByteArray
  wd : Bool
  st : Int
deriving DecidableEq
instance : Inhabited G := ⟨⟨ByteArray.empty, false, 0⟩⟩
def G.cells (g : G) : List Value := [.string g.t, .bool g.wd, .int .i64 g.st]
def G.val (g : G) : Value := .agg g.cells.toArray
theorem G.cells_len (g : G) : g.cells.length = 3 := rfl
/-- Glyphs, as cells. -/
def gcs (l : List G) : List Value := l.flatMap G.cells
theorem gcs_len (l : List G) : (gcs l).length = l.length * 3 := by
  induction l with
  | nil => rfl
  | cons g l ih => simp only [gcs, List.flatMap_cons, List.length_append, G.cells_len, List.length_cons] at ih ⊢; omega
theorem gcs_one (l : List G) : ∀ u ∈ gcs l, u.oneCell' = true := by
  intro u hu
  simp only [gcs, List.mem_flatMap, G.cells, List.mem_cons, List.not_mem_nil, or_false] at hu
  obtain ⟨r, _, h⟩ := hu
  rcases h with rfl | rfl | rfl <;> rfl
end R
theorem Reads.gl {w : World} {B : Nat} {A : Option Addr} {l : List R.G} (h : Reads w B 3 A l.length (R.gcs l)) (hn : 0 < l.length) :
    ∃ b off, A = some ⟨b, off, none⟩ ∧ b < B ∧ ∀ k (hk : k < l.length), w.cell? ⟨b, off + k * 3, none⟩ = some (.string l[k].t) ∧ w.cell? ⟨b, off + k * 3 + 1, none⟩ = some (.bool l[k].wd) ∧ w.cell? ⟨b, off + k * 3 + 2, none⟩ = some (.int .i64 l[k].st) := by
  obtain ⟨b, off, e, hb, hc⟩ := h.flat hn (by decide)
  refine ⟨b, off, e, hb, fun k hk => ?_⟩
  have hg : ∀ j, j < 3 → (R.gcs l)[k * 3 + j]? = (l[k].cells)[j]? := fun j hj => by
    unfold R.gcs
    rw [flat_get R.G.cells 3 l R.G.cells_len k j hj, List.getElem?_eq_getElem hk]
    rfl
  exact ⟨hc (k * 3 + 0) _ (hg 0 (by decide)), hc (k * 3 + 1) _ (hg 1 (by decide)), hc (k * 3 + 2) _ (hg 2 (by decide))⟩

theorem guard78 : Try.prog.eqGuardType Try.prog.depth 78 = false := by kernel_rfl
theorem bytes_eq (a b : ByteArray) : (a.toList == b.toList) = decide (a = b) := by
  rw [ByteArray.toList_eq, ByteArray.toList_eq]
  obtain ⟨⟨x⟩⟩ := a
  obtain ⟨⟨y⟩⟩ := b
  by_cases h : x = y <;> simp [h]
attribute [local go_sem] guard78
set_option maxHeartbeats 2000000 in
theorem R.eql_run (a b : R.G) (w : World) : (Op.equalIn 10000 78 a.val b.val).run Try.prog w = .ok (decide (a = b)) w := by
  obtain ⟨at_, aw, as_⟩ := a
  obtain ⟨bt, bw, bs⟩ := b
  simp only [R.G.val, R.G.cells]
  by_cases h0 : at_ = bt
  case neg => simp [go_sem, bytes_eq, h0]
  by_cases h1 : aw = bw
  case neg => simp [go_sem, bytes_eq, h0, h1]
  by_cases h2 : as_ = bs
  case neg => simp [go_sem, bytes_eq, h0, h1, h2]
  simp [go_sem, bytes_eq, h0, h1, h2]
theorem R.neq_run (a b : R.G) (w : World) : (binOp .neq 78 a.val b.val).run Try.prog w = .ok (.bool (!decide (a = b))) w := by
  have h := R.eql_run a b w
  simp only [R.G.val] at h ⊢
  rw [run_neq_struct, h]
  rfl
theorem R.eq_run (a b : R.G) (w : World) : (binOp .eql 78 a.val b.val).run Try.prog w = .ok (.bool (decide (a = b))) w := by
  have h := R.eql_run a b w
  simp only [R.G.val] at h ⊢
  rw [run_eql_struct, h]
  rfl
theorem R.eq_yes (a : R.G) (w : World) : (binOp .eql 78 (.agg #[.string a.t, .bool a.wd, .int .i64 a.st]) (.agg #[.string a.t, .bool a.wd, .int .i64 a.st])).run Try.prog w = .ok (.bool true) w := by
  have h := R.eq_run a a w
  rw [decide_eq_true rfl] at h
  exact h
theorem R.eq_no {a b : R.G} (hab : a ≠ b) (w : World) : (binOp .eql 78 (.agg #[.string a.t, .bool a.wd, .int .i64 a.st]) (.agg #[.string b.t, .bool b.wd, .int .i64 b.st])).run Try.prog w = .ok (.bool false) w := by
  have h := R.eq_run a b w
  rw [decide_eq_false hab] at h
  exact h
theorem R.ne_yes {a b : R.G} (hab : a ≠ b) (w : World) : (binOp .neq 78 (.agg #[.string a.t, .bool a.wd, .int .i64 a.st]) (.agg #[.string b.t, .bool b.wd, .int .i64 b.st])).run Try.prog w = .ok (.bool true) w := by
  have h := R.neq_run a b w
  rw [decide_eq_false hab] at h
  exact h
theorem R.ne_no (a : R.G) (w : World) : (binOp .neq 78 (.agg #[.string a.t, .bool a.wd, .int .i64 a.st]) (.agg #[.string a.t, .bool a.wd, .int .i64 a.st])).run Try.prog w = .ok (.bool false) w := by
  have h := R.neq_run a a w
  rw [decide_eq_true rfl] at h
  exact h
end Go.Proofs.Ytfjkelngdljikaa
