/-
  A row of glyphs that came in. By an AI agent.
-/
import Derived.Deep.Strs
import Derived.Test.YteakiielcmgkeaaOpen
import Derived.Test.YteakiielcmgkeaaGl
namespace Go.Proofs.Yteakiielcmgkeaa
open Go.ChangeShapes Go.WideShapes Go.ChangeAt Go.RowKit

section
variable {H : Type} {enc : TypeId × Value → H} {W : World}
theorem trod_glyph (n : Nat) (cs : List Value) (y : DataW H × List MemPlace) (h : DataW.trod enc Try.prog W 0 (fun _ => true) true n 33 cs = some y) (hl : cs.length = 3) : ∃ g : R.G, cs = g.cells ∧ g.t.size ≤ maxLen := by
  obtain ⟨y0, y1, y2, m, _, _, h0, h1, h2⟩ := Go.Deep.trod_struct3 Try.underlying33 h
  match cs, hl with
  | [c0, c1, c2], _ =>
    have e9 : Try.prog.cellsOf 9 = 1 := by kernel_rfl
    have e4 : Try.prog.cellsOf 4 = 1 := by kernel_rfl
    have e3 : Try.prog.cellsOf 3 = 1 := by kernel_rfl
    simp only [e9, e4, e3, List.drop_zero, List.drop_succ_cons, List.take_succ_cons, List.take_zero] at h0 h1 h2
    obtain ⟨s, hs, _, hz⟩ := DataW.trod_string Try.underlying9 h0
    obtain ⟨b, hb, _⟩ := DataW.trod_bool Try.underlying4 h1
    obtain ⟨x, hx, _⟩ := DataW.trod_int Try.underlying3 h2
    simp only [List.cons.injEq, and_true] at hs hb hx
    subst hs hb hx
    exact ⟨⟨s, b, x⟩, rfl, hz⟩
theorem open_gls {r : Reach} {b0 : Nat} {v : Value} {d : DataW H} {ps : List MemPlace} (hval : Value.okWide Try.prog W r b0 22 v) (h : DataW.Trod enc Try.prog W 0 (fun _ => true) true 22 v d ps) :
    ∃ (A : Option Addr) (c : Nat) (gs : List R.G), v = .slice A gs.length c ∧ Reads W W.heap.size 3 A gs.length (R.gcs gs) ∧ gs.length ≤ maxLen ∧ gs.length ≤ c := by
  obtain ⟨A, c, xs, h0, h1, h2, h3, _, h5⟩ := open_sl (α := R.G) (enc' := R.G.cells) (good := fun g => g.t.size ≤ maxLen) Try.underlying22 (by kernel_rfl) (by decide) trod_glyph hval h
  exact ⟨A, c, xs, h0, h1, h3, h5⟩
end
end Go.Proofs.Yteakiielcmgkeaa
