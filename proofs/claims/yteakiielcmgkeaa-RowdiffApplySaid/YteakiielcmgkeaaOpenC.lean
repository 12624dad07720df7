/-
  Changes that came in. By an AI agent.
-/
import Derived.Test.YteakiielcmgkeaaOpenR
import Derived.Test.YteakiielcmgkeaaChg
namespace Go.Proofs.Yteakiielcmgkeaa
set_option linter.unusedSimpArgs false
set_option linter.unusedVariables false
open Go.ChangeShapes Go.WideShapes Go.ChangeAt Go.RowKit

section
variable {H : Type} {enc : TypeId × Value → H} {P : Program} {w : World} {base : Nat} {spare : Nat → Bool} {held : Bool}
theorem trod_struct6 {t : TypeId} {f0 f1 f2 f3 f4 f5 : Field} {fuel : Nat} {cs : List Value} {x : DataW H × List MemPlace} (ht : P.underlying t = some (.struct #[f0, f1, f2, f3, f4, f5])) (h : DataW.trod enc P w base spare held fuel t cs = some x) :
    ∃ (y0 y1 y2 y3 y4 y5 : DataW H × List MemPlace) (n : Nat), DataW.trod enc P w base spare held n f0.type ((cs.drop f0.offset).take (P.cellsOf f0.type)) = some y0 ∧ DataW.trod enc P w base spare held n f1.type ((cs.drop f1.offset).take (P.cellsOf f1.type)) = some y1 ∧ DataW.trod enc P w base spare held n f2.type ((cs.drop f2.offset).take (P.cellsOf f2.type)) = some y2 ∧ DataW.trod enc P w base spare held n f3.type ((cs.drop f3.offset).take (P.cellsOf f3.type)) = some y3 ∧ DataW.trod enc P w base spare held n f4.type ((cs.drop f4.offset).take (P.cellsOf f4.type)) = some y4 ∧ DataW.trod enc P w base spare held n f5.type ((cs.drop f5.offset).take (P.cellsOf f5.type)) = some y5 := by
  obtain ⟨xs, n, _, rfl, hl, hlen, hf⟩ := DataW.trod_struct ht h
  match xs, hlen with
  | [y0, y1, y2, y3, y4, y5], _ => exact ⟨y0, y1, y2, y3, y4, y5, n, by simpa using hf 0 f0 rfl, by simpa using hf 1 f1 rfl, by simpa using hf 2 f2 rfl, by simpa using hf 3 f3 rfl, by simpa using hf 4 f4 rfl, by simpa using hf 5 f5 rfl⟩
end
/-- What is known of a change that came in. -/
def R.CGood (W : World) (x : R.Cs) : Prop := (∃ A' c, x.sl = .slice A' x.c.gl.length c ∧ Reads W W.heap.size 3 A' x.c.gl.length (R.gcs x.c.gl) ∧ x.c.gl.length ≤ c) ∧ x.c.gl.length ≤ maxLen ∧ (-9223372036854775808 ≤ x.c.col ∧ x.c.col ≤ 9223372036854775807)
section
variable {H : Type} {enc : TypeId × Value → H} {W : World}
theorem trod_change (n : Nat) (cs : List Value) (y : DataW H × List MemPlace) (h : DataW.trod enc Try.prog W 0 (fun _ => true) true n 29 cs = some y) (hl : cs.length = 6) : ∃ x : R.Cs, cs = x.cells ∧ R.CGood W x := by
  obtain ⟨y0, y1, y2, y3, y4, y5, m, h0, h1, h2, h3, h4, h5⟩ := trod_struct6 Try.underlying29 h
  match cs, hl with
  | [k0, k1, k2, k3, k4, k5], _ =>
    have e3 : Try.prog.cellsOf 3 = 1 := by kernel_rfl
    have e22 : Try.prog.cellsOf 22 = 1 := by kernel_rfl
    have e33 : Try.prog.cellsOf 33 = 3 := by kernel_rfl
    simp only [e3, e22, List.drop_zero, List.drop_succ_cons, List.take_succ_cons, List.take_zero] at h0 h1 h2 h3 h4 h5
    obtain ⟨x0, e10, _, w0⟩ := DataW.trod_int Try.underlying3 h0
    obtain ⟨x1, e11, _, w1⟩ := DataW.trod_int Try.underlying3 h1
    obtain ⟨x2, e12, _, w2⟩ := DataW.trod_int Try.underlying3 h2
    obtain ⟨x3, e13, _, w3⟩ := DataW.trod_int Try.underlying3 h3
    obtain ⟨x4, e14, _, w4⟩ := DataW.trod_int Try.underlying3 h4
    obtain ⟨A, c, xs, hs, hr, _, hm, _, hc⟩ := trod_sl (α := R.G) (enc' := R.G.cells) (good := fun g => g.t.size ≤ maxLen) Try.underlying22 e33 (by decide) trod_glyph h5
    simp only [List.cons.injEq, and_true] at e10 e11 e12 e13 e14 hs
    subst e10 e11 e12 e13 e14 hs
    exact ⟨⟨⟨x0, x1, x2, x3, x4, xs⟩, .slice A xs.length c⟩, rfl, ⟨A, c, rfl, hr, hc⟩, hm, wf_i64 w2⟩
instance : Inhabited R.Cs := ⟨⟨⟨0, 0, 0, 0, 0, []⟩, .slice none 0 0⟩⟩
theorem open_changes {r : Reach} {b0 : Nat} {v : Value} {d : DataW H} {ps : List MemPlace} (hval : Value.okWide Try.prog W r b0 26 v) (h : DataW.Trod enc Try.prog W 0 (fun _ => true) true 26 v d ps) :
    ∃ (A : Option Addr) (c : Nat) (xs : List R.Cs), v = .slice A xs.length c ∧ R.Chs W W.heap.size A xs ∧ (∀ x ∈ xs, R.CGood W x) ∧ xs.length ≤ maxLen := by
  obtain ⟨A, c, xs, h0, h1, h2, h3, _, _⟩ := open_sl (α := R.Cs) (enc' := R.Cs.cells) (good := R.CGood W) Try.underlying26 (by kernel_rfl) (by decide) trod_change hval h
  exact ⟨A, c, xs, h0, ⟨h1, fun x hx => (h2 x hx).1.1⟩, fun x hx => (h2 x hx).1, h3⟩
end
end Go.Proofs.Yteakiielcmgkeaa
