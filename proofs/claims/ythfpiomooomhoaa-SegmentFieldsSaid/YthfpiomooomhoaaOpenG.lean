/-
  A row of glyphs that came in, and a row of spans. By an AI agent.
-/
import Derived.Deep.Strs
import Derived.Test.YthfpiomooomhoaaOpen
import Derived.Test.YthfpiomooomhoaaKind
import Derived.Test.YthfpiomooomhoaaPSpans
import Derived.Test.YthfpiomooomhoaaStep
namespace Go.Proofs.Ythfpiomooomhoaa
open Go.ChangeShapes Go.WideShapes Go.ChangeAt Go.RowKit

section
variable {H : Type} {enc : TypeId × Value → H} {W : World}

theorem trod_glyph (n : Nat) (cs : List Value) (y : DataW H × List MemPlace) (h : DataW.trod enc Try.prog W 0 (fun _ => true) true n 32 cs = some y) (hl : cs.length = 3) : ∃ g : S.G, cs = g.cells ∧ g.t.size ≤ maxLen := by
  obtain ⟨y0, y1, y2, m, _, _, h0, h1, h2⟩ := Go.Deep.trod_struct3 Try.underlying32 h
  match cs, hl with
  | [c0, c1, c2], _ =>
    have e9 : Try.prog.cellsOf 9 = 1 := by kernel_rfl
    have e4 : Try.prog.cellsOf 4 = 1 := by kernel_rfl
    have e3 : Try.prog.cellsOf 3 = 1 := by kernel_rfl
    simp only [e9, e4, e3, List.drop_zero, List.drop_succ_cons, List.take_succ_cons, List.take_zero] at h0 h1 h2
    obtain ⟨s, hs, _, hz⟩ := DataW.trod_string Try.underlying9 h0
    obtain ⟨b, hb, _⟩ := DataW.trod_bool Try.underlying4 h1
    obtain ⟨x, hx, _⟩ := DataW.trod_int Try.underlying3 h2
    simp only [List.cons.injEq, and_true] at hs hb hx
    subst hs hb hx
    exact ⟨⟨s, b, x⟩, rfl, hz⟩

theorem open_glyphs {r : Reach} {b0 : Nat} {v : Value} {d : DataW H} {ps : List MemPlace} (hval : Value.okWide Try.prog W r b0 22 v) (h : DataW.Trod enc Try.prog W 0 (fun _ => true) true 22 v d ps) :
    ∃ (A : Option Addr) (c : Nat) (gs : List S.G), v = .slice A gs.length c ∧ Reads W W.heap.size 3 A gs.length (gs.flatMap S.G.cells) ∧ gs.length ≤ maxLen ∧ ∀ g ∈ gs, g.t.size ≤ maxLen := by
  obtain ⟨A, c, xs, h0, h1, h2, h3, _, _⟩ := open_sl (α := S.G) (enc' := S.G.cells) (good := fun g => g.t.size ≤ maxLen) Try.underlying22 (by kernel_rfl) (by decide) trod_glyph hval h
  exact ⟨A, c, xs, h0, h1, h3, fun g hg => (h2 g hg).1⟩

theorem trod_span (n : Nat) (cs : List Value) (y : DataW H × List MemPlace) (h : DataW.trod enc Try.prog W 0 (fun _ => true) true n 34 cs = some y) (hl : cs.length = 2) : ∃ g : Int × Int, cs = S.zc g ∧ True := by
  obtain ⟨y0, y1, m, _, _, h0, h1⟩ := trod_struct2 Try.underlying34 h
  match cs, hl with
  | [c0, c1], _ =>
    have e3 : Try.prog.cellsOf 3 = 1 := by kernel_rfl
    simp only [e3, List.drop_zero, List.drop_succ_cons, List.take_succ_cons, List.take_zero] at h0 h1
    obtain ⟨x, hx, _⟩ := DataW.trod_int Try.underlying3 h0
    obtain ⟨z, hz, _⟩ := DataW.trod_int Try.underlying3 h1
    simp only [List.cons.injEq, and_true] at hx hz
    subst hx hz
    exact ⟨(x, z), rfl, trivial⟩

theorem open_spans {r : Reach} {b0 : Nat} {v : Value} {d : DataW H} {ps : List MemPlace} (hval : Value.okWide Try.prog W r b0 28 v) (h : DataW.Trod enc Try.prog W 0 (fun _ => true) true 28 v d ps) :
    ∃ (A : Option Addr) (c : Nat) (l : List (Int × Int)), v = .slice A l.length c ∧ Reads W W.heap.size 2 A l.length (l.flatMap S.zc) ∧ l.length ≤ maxLen := by
  obtain ⟨A, c, xs, h0, h1, h2, h3, _, _⟩ := open_sl (α := Int × Int) (enc' := S.zc) (good := fun _ => True) Try.underlying28 (by kernel_rfl) (by decide) trod_span hval h
  exact ⟨A, c, xs, h0, h1, h3⟩
end
end Go.Proofs.Ythfpiomooomhoaa
