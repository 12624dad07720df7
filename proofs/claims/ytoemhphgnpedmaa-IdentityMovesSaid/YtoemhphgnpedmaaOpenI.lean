/-
  Regions that came in. By an AI agent.
-/
import Derived.Deep.Strs
import Derived.Lib.SmallJoins
import Derived.Test.YtoemhphgnpedmaaOpen
import Derived.Test.YtoemhphgnpedmaaRg
namespace Go.Proofs.Ytoemhphgnpedmaa
open Go.Joins Go.ChangeShapes Go.WideShapes Go.ChangeAt Go.RowKit Go.Deep

/-- The numbers of a region are the machine's. -/
structure I.Num (g : I.Rg) : Prop where
  lab : g.label.size ≤ maxLen
  kind : -9223372036854775808 ≤ g.kind ∧ g.kind ≤ 9223372036854775807
  id : -9223372036854775808 ≤ g.id ∧ g.id ≤ 9223372036854775807
  parent : -9223372036854775808 ≤ g.parent ∧ g.parent ≤ 9223372036854775807
  top : -9223372036854775808 ≤ g.top ∧ g.top ≤ 9223372036854775807
  left : -9223372036854775808 ≤ g.left ∧ g.left ≤ 9223372036854775807
  bottom : -9223372036854775808 ≤ g.bottom ∧ g.bottom ≤ 9223372036854775807
  right : -9223372036854775808 ≤ g.right ∧ g.right ≤ 9223372036854775807
section
variable {H : Type} {enc : TypeId × Value → H} {P : Program} {w : World} {base : Nat} {spare : Nat → Bool} {held : Bool}
theorem trod_struct8 {t : TypeId} {f0 f1 f2 f3 f4 f5 f6 f7 : Field} {fuel : Nat} {cs : List Value} {x : DataW H × List MemPlace} (ht : P.underlying t = some (.struct #[f0, f1, f2, f3, f4, f5, f6, f7])) (h : DataW.trod enc P w base spare held fuel t cs = some x) :
    ∃ (y0 y1 y2 y3 y4 y5 y6 y7 : DataW H × List MemPlace) (n : Nat), DataW.trod enc P w base spare held n f0.type ((cs.drop f0.offset).take (P.cellsOf f0.type)) = some y0 ∧ DataW.trod enc P w base spare held n f1.type ((cs.drop f1.offset).take (P.cellsOf f1.type)) = some y1 ∧ DataW.trod enc P w base spare held n f2.type ((cs.drop f2.offset).take (P.cellsOf f2.type)) = some y2 ∧ DataW.trod enc P w base spare held n f3.type ((cs.drop f3.offset).take (P.cellsOf f3.type)) = some y3 ∧ DataW.trod enc P w base spare held n f4.type ((cs.drop f4.offset).take (P.cellsOf f4.type)) = some y4 ∧ DataW.trod enc P w base spare held n f5.type ((cs.drop f5.offset).take (P.cellsOf f5.type)) = some y5 ∧ DataW.trod enc P w base spare held n f6.type ((cs.drop f6.offset).take (P.cellsOf f6.type)) = some y6 ∧ DataW.trod enc P w base spare held n f7.type ((cs.drop f7.offset).take (P.cellsOf f7.type)) = some y7 := by
  obtain ⟨xs, n, _, rfl, hl, hlen, hf⟩ := DataW.trod_struct ht h
  match xs, hlen with
  | [y0, y1, y2, y3, y4, y5, y6, y7], _ => exact ⟨y0, y1, y2, y3, y4, y5, y6, y7, n, by simpa using hf 0 f0 rfl, by simpa using hf 1 f1 rfl, by simpa using hf 2 f2 rfl, by simpa using hf 3 f3 rfl, by simpa using hf 4 f4 rfl, by simpa using hf 5 f5 rfl, by simpa using hf 6 f6 rfl, by simpa using hf 7 f7 rfl⟩
end
section
variable {H : Type} {enc : TypeId × Value → H} {W : World}
theorem trod_rg (n : Nat) (cs : List Value) (y : DataW H × List MemPlace) (h : DataW.trod enc Try.prog W 0 (fun _ => true) true n 27 cs = some y) (hl : cs.length = 8) : ∃ g : I.Rg, cs = g.cells ∧ I.Num g := by
  obtain ⟨y0, y1, y2, y3, y4, y5, y6, y7, m, h0, h1, h2, h3, h4, h5, h6, h7⟩ := trod_struct8 Try.underlying27 h
  match cs, hl with
  | [c0, c1, c2, c3, c4, c5, c6, c7], _ =>
    have e9 : Try.prog.cellsOf 9 = 1 := by kernel_rfl
    have e3 : Try.prog.cellsOf 3 = 1 := by kernel_rfl
    simp only [e9, e3, List.drop_zero, List.drop_succ_cons, List.take_succ_cons, List.take_zero] at h0 h1 h2 h3 h4 h5 h6 h7
    obtain ⟨x0, e10, _, w0⟩ := DataW.trod_int Try.underlying3 h0
    obtain ⟨x1, e11, _, w1⟩ := DataW.trod_int Try.underlying3 h1
    obtain ⟨x2, e12, _, w2⟩ := DataW.trod_int Try.underlying3 h2
    obtain ⟨x3, e13, _, w3⟩ := DataW.trod_int Try.underlying3 h3
    obtain ⟨x4, e14, _, w4⟩ := DataW.trod_int Try.underlying3 h4
    obtain ⟨x5, e15, _, w5⟩ := DataW.trod_int Try.underlying3 h5
    obtain ⟨x6, e16, _, w6⟩ := DataW.trod_int Try.underlying3 h6
    obtain ⟨s, e17, _, hz⟩ := DataW.trod_string Try.underlying9 h7
    simp only [List.cons.injEq, and_true] at e10 e11 e12 e13 e14 e15 e16 e17
    subst e10 e11 e12 e13 e14 e15 e16 e17
    exact ⟨⟨x0, x1, x2, x3, x4, x5, x6, s⟩, rfl, hz, wf_i64 w0, wf_i64 w1, wf_i64 w2, wf_i64 w3, wf_i64 w4, wf_i64 w5, wf_i64 w6⟩
theorem open_rg {r : Reach} {b0 : Nat} {v : Value} {d : DataW H} {ps : List MemPlace} (hval : Value.okWide Try.prog W r b0 27 v) (h : DataW.Trod enc Try.prog W 0 (fun _ => true) true 27 v d ps) : ∃ g : I.Rg, v = g.val ∧ I.Num g := by
  obtain ⟨cs, rfl, hsz⟩ := okWide_struct Try.underlying27 hval
  obtain ⟨fuel, hf⟩ := h
  have hC : Try.prog.cellsOf 27 = 8 := by kernel_rfl
  obtain ⟨g, e, hg⟩ := trod_rg fuel cs.toList _ hf (by rw [Array.length_toList, hsz, hC])
  refine ⟨g, ?_, hg⟩
  unfold I.Rg.val
  rw [← e]
theorem open_rgs {r : Reach} {b0 : Nat} {v : Value} {d : DataW H} {ps : List MemPlace} (hval : Value.okWide Try.prog W r b0 22 v) (h : DataW.Trod enc Try.prog W 0 (fun _ => true) true 22 v d ps) :
    ∃ (A : Option Addr) (c : Nat) (l : List I.Rg), v = .slice A l.length c ∧ Reads W W.heap.size 8 A l.length (I.rcs l) ∧ I.Ok l ∧ (∀ g ∈ l, I.Num g) ∧ l.length ≤ c := by
  obtain ⟨A, c, xs, h0, h1, h2, h3, _, h5⟩ := open_sl (α := I.Rg) (enc' := I.Rg.cells) (good := I.Num) Try.underlying22 (by kernel_rfl) (by decide) trod_rg hval h
  exact ⟨A, c, xs, h0, h1, ⟨h3, fun g hg => (h2 g hg).1.lab⟩, fun g hg => (h2 g hg).1, h5⟩
end
end Go.Proofs.Ytoemhphgnpedmaa
