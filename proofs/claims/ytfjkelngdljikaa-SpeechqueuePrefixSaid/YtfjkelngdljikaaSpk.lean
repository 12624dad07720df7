/-
  What was spoken, in memory. No walk. By an AI agent.
-/
import Derived.Test.YtfjkelngdljikaaUm
namespace Go.Proofs.Ytfjkelngdljikaa
set_option linter.unusedVariables false
open Go.RowKit
namespace Q
/-- What was spoken. -/
structure Sa where
  u : Ut
  be : Int
  en : Int
  co : Bool
deriving DecidableEq
/-- What was spoken, with its slices. -/
structure Sm where
  m : Um
  be : Int
  en : Int
  co : Bool
def Sm.a (s : Sm) : Sa := ⟨s.m.u, s.be, s.en, s.co⟩
def Sm.cells (s : Sm) : List Value := [.slice s.m.aw s.m.u.words.length s.m.cw, .slice s.m.ac s.m.u.chs.length s.m.cc, .int .i64 s.m.u.cl, .int .i64 s.m.u.af, .int .i64 s.m.u.up, .int .i64 s.be, .int .i64 s.en, .bool s.co]
theorem Sm.cells_len (m : Sm) : m.cells.length = 8 := rfl
def scs (l : List Sm) : List Value := l.flatMap Sm.cells
theorem scs_one (l : List Sm) : ∀ u ∈ scs l, u.oneCell' = true := by
  intro u hu
  simp only [scs, List.mem_flatMap, Sm.cells, List.mem_cons, List.not_mem_nil, or_false] at hu
  obtain ⟨r, _, h⟩ := hu
  rcases h with rfl | rfl | rfl | rfl | rfl | rfl | rfl | rfl <;> rfl
structure SsIn (W : World) (B : Nat) (A : Option Addr) (l : List Sm) : Prop where
  row : Reads W B 8 A l.length (scs l)
  el : ∀ s ∈ l, UIn W B s.m
variable {W W' : World} {B B' : Nat} {A : Option Addr} {l : List Sm}
theorem SsIn.below {B₁ : Nat} (h : SsIn W B A l) (hb : Below B₁ W W') (hB : B ≤ B₁) : SsIn W' B A l := ⟨h.row.below hb hB, fun m hm => (h.el m hm).below hb hB⟩
theorem SsIn.drewN (h : SsIn W B A l) (n : Nat) : SsIn (W.drewN n) B A l := ⟨h.row.drewN n, fun m hm => (h.el m hm).drewN n⟩
theorem SsIn.more (h : SsIn W B A l) (hB : B ≤ B') : SsIn W B' A l := ⟨h.row.more hB, fun m hm => (h.el m hm).more hB⟩
structure SAt (w : World) (b o : Nat) (s : Sm) : Prop where
  c0 : w.cell? ⟨b, o, none⟩ = some (.slice s.m.aw s.m.u.words.length s.m.cw)
  c1 : w.cell? ⟨b, o + 1, none⟩ = some (.slice s.m.ac s.m.u.chs.length s.m.cc)
  c2 : w.cell? ⟨b, o + 2, none⟩ = some (.int .i64 s.m.u.cl)
  c3 : w.cell? ⟨b, o + 3, none⟩ = some (.int .i64 s.m.u.af)
  c4 : w.cell? ⟨b, o + 4, none⟩ = some (.int .i64 s.m.u.up)
  c5 : w.cell? ⟨b, o + 5, none⟩ = some (.int .i64 s.be)
  c6 : w.cell? ⟨b, o + 6, none⟩ = some (.int .i64 s.en)
  c7 : w.cell? ⟨b, o + 7, none⟩ = some (.bool s.co)
theorem reads_sp (h : Reads W B 8 A l.length (scs l)) (hn : 0 < l.length) :
    ∃ b off, A = some ⟨b, off, none⟩ ∧ b < B ∧ ∀ k (hk : k < l.length), SAt W b (off + k * 8) l[k] := by
  obtain ⟨b, off, e, hb, hc⟩ := h.flat hn (by decide)
  refine ⟨b, off, e, hb, fun k hk => ?_⟩
  have hg : ∀ j, j < 8 → (scs l)[k * 8 + j]? = (l[k].cells)[j]? := fun j hj => by
    unfold scs
    rw [flat_get Sm.cells 8 l Sm.cells_len k j hj, List.getElem?_eq_getElem hk]
    rfl
  exact ⟨hc (k * 8 + 0) _ (hg 0 (by decide)), hc (k * 8 + 1) _ (hg 1 (by decide)), hc (k * 8 + 2) _ (hg 2 (by decide)), hc (k * 8 + 3) _ (hg 3 (by decide)), hc (k * 8 + 4) _ (hg 4 (by decide)), hc (k * 8 + 5) _ (hg 5 (by decide)), hc (k * 8 + 6) _ (hg 6 (by decide)), hc (k * 8 + 7) _ (hg 7 (by decide))⟩
/-- Small enough for the machine. -/
def Ut.Ok (u : Ut) : Prop := u.words.length ≤ maxLen ∧ u.chs.length ≤ maxLen ∧ ∀ c ∈ u.chs, c.gl.length ≤ maxLen
end Q
end Go.Proofs.Ytfjkelngdljikaa
