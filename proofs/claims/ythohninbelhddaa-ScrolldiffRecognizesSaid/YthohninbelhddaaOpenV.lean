/-
  A view that came in. By an AI agent.
-/
import Derived.Deep.Strs
import Derived.Lib.SmallJoins
import Derived.Test.YthohninbelhddaaOpen
import Derived.Test.YthohninbelhddaaVw
namespace Go.Proofs.Ythohninbelhddaa
open Go.Joins Go.ChangeShapes Go.WideShapes Go.ChangeAt Go.RowKit Go.Deep

section
variable {H : Type} {enc : TypeId × Value → H} {P : Program} {w : World} {base : Nat} {spare : Nat → Bool} {held : Bool}
theorem open_agg6 {r : Reach} {b0 : Nat} {t : TypeId} {f0 f1 f2 f3 f4 f5 : Field} {v : Value} {d : DataW H} {p : List MemPlace} (hs : P.underlying t = some (.struct #[f0, f1, f2, f3, f4, f5])) (hone : oneCellFields P #[f0, f1, f2, f3, f4, f5] = true) (hC : P.cellsOf t = 6)
    (hv : Value.okWide P w r b0 t v) (h : DataW.Trod enc P w base spare held t v d p) :
    ∃ (v0 v1 v2 v3 v4 v5 : Value) (y0 y1 y2 y3 y4 y5 : DataW H × List MemPlace) (n : Nat), v = .agg #[v0, v1, v2, v3, v4, v5] ∧
      DataW.trod enc P w base spare held n f0.type [v0] = some y0 ∧ DataW.trod enc P w base spare held n f1.type [v1] = some y1 ∧ DataW.trod enc P w base spare held n f2.type [v2] = some y2 ∧ DataW.trod enc P w base spare held n f3.type [v3] = some y3 ∧ DataW.trod enc P w base spare held n f4.type [v4] = some y4 ∧ DataW.trod enc P w base spare held n f5.type [v5] = some y5 := by
  obtain ⟨cs, rfl, hsz⟩ := okWide_struct hs hv
  obtain ⟨l⟩ := cs
  match l, hsz.trans hC with
  | [c0, c1, c2, c3, c4, c5], _ =>
    obtain ⟨fuel, hf⟩ := h
    obtain ⟨xs, n, _, hx, _, hlen, hg⟩ := DataW.trod_struct hs hf
    obtain ⟨o0, k0⟩ := hone_of hone 0 f0 rfl
    obtain ⟨o1, k1⟩ := hone_of hone 1 f1 rfl
    obtain ⟨o2, k2⟩ := hone_of hone 2 f2 rfl
    obtain ⟨o3, k3⟩ := hone_of hone 3 f3 rfl
    obtain ⟨o4, k4⟩ := hone_of hone 4 f4 rfl
    obtain ⟨o5, k5⟩ := hone_of hone 5 f5 rfl
    match xs, hlen with
    | [y0, y1, y2, y3, y4, y5], _ =>
      exact ⟨c0, c1, c2, c3, c4, c5, y0, y1, y2, y3, y4, y5, n, rfl, by simpa [Value.cells, o0, k0] using hg 0 f0 rfl, by simpa [Value.cells, o1, k1] using hg 1 f1 rfl, by simpa [Value.cells, o2, k2] using hg 2 f2 rfl, by simpa [Value.cells, o3, k3] using hg 3 f3 rfl, by simpa [Value.cells, o4, k4] using hg 4 f4 rfl, by simpa [Value.cells, o5, k5] using hg 5 f5 rfl⟩
end

section
variable {H : Type} {enc : TypeId × Value → H} {W : World}
theorem trod_gl (n : Nat) (cs : List Value) (y : DataW H × List MemPlace) (h : DataW.trod enc Try.prog W 0 (fun _ => true) true n 44 cs = some y) (hl : cs.length = 3) : ∃ g : C.Gl, cs = g.cells ∧ g.t.size ≤ maxLen := by
  obtain ⟨y0, y1, y2, m, _, _, h0, h1, h2⟩ := Go.Deep.trod_struct3 Try.underlying44 h
  match cs, hl with
  | [c0, c1, c2], _ =>
    have e9 : Try.prog.cellsOf 9 = 1 := by kernel_rfl
    have e4 : Try.prog.cellsOf 4 = 1 := by kernel_rfl
    have e3 : Try.prog.cellsOf 3 = 1 := by kernel_rfl
    simp only [e9, e4, e3, List.drop_zero, List.drop_succ_cons, List.take_succ_cons, List.take_zero] at h0 h1 h2
    obtain ⟨s, hs, _, hz⟩ := DataW.trod_string Try.underlying9 h0
    obtain ⟨b, hb, _⟩ := DataW.trod_bool Try.underlying4 h1
    obtain ⟨x, hx, _⟩ := DataW.trod_int Try.underlying3 h2
    simp only [List.cons.injEq, and_true] at hs hb hx
    subst hs hb hx
    exact ⟨⟨s, b, x⟩, rfl, hz⟩
instance : Inhabited C.Gl := ⟨⟨.empty, false, 0⟩⟩
theorem trod_row (n : Nat) (cs : List Value) (y : DataW H × List MemPlace) (h : DataW.trod enc Try.prog W 0 (fun _ => true) true n 27 cs = some y) :
    ∃ r : Option Addr × Nat × List C.Gl, cs = [C.slv r] ∧ Reads W W.heap.size 3 r.1 r.2.2.length (r.2.2.flatMap C.Gl.cells) ∧ r.2.2.length ≤ maxLen ∧ ∀ g ∈ r.2.2, g.t.size ≤ maxLen := by
  obtain ⟨A, c, xs, hs, hr, hg, hm, _, _⟩ := trod_sl (α := C.Gl) (enc' := C.Gl.cells) (good := fun g => g.t.size ≤ maxLen) Try.underlying27 (size := 3) (by kernel_rfl) (by decide) trod_gl h
  exact ⟨(A, c, xs), hs, hr, hm, fun g hg' => (hg g hg').1⟩
theorem flat_slv (rs : List (Option Addr × Nat × List C.Gl)) : rs.flatMap (fun r => [C.slv r]) = rs.map C.slv := by induction rs <;> simp_all
theorem trod_rows (n : Nat) (cs : List Value) (y : DataW H × List MemPlace) (h : DataW.trod enc Try.prog W 0 (fun _ => true) true n 22 cs = some y) :
    ∃ (A : Option Addr) (c : Nat) (rs : List (Option Addr × Nat × List C.Gl)), cs = [.slice A rs.length c] ∧ C.Rv W W.heap.size A rs := by
  obtain ⟨A, c, xs, hs, hr, hg, hm, _, _⟩ := trod_sl (α := Option Addr × Nat × List C.Gl) (enc' := fun r => [C.slv r]) (good := fun r => Reads W W.heap.size 3 r.1 r.2.2.length (r.2.2.flatMap C.Gl.cells) ∧ r.2.2.length ≤ maxLen ∧ ∀ g ∈ r.2.2, g.t.size ≤ maxLen) Try.underlying22 (size := 1) (by kernel_rfl) (by decide) (fun n cs y hy _ => by
    obtain ⟨r, h1, h2⟩ := trod_row n cs y hy
    exact ⟨r, h1, h2⟩) h
  rw [flat_slv] at hr
  exact ⟨A, c, xs, hs, ⟨hr, fun r hr' => (hg r hr').1, hm⟩⟩
theorem open_view {r : Reach} {b0 : Nat} {v : Value} {d : DataW H} {ps : List MemPlace} (hval : Value.okWide Try.prog W r b0 24 v) (h : DataW.Trod enc Try.prog W 0 (fun _ => true) true 24 v d ps) :
    ∃ a : C.VR, v = a.val ∧ C.Rv W W.heap.size a.A a.rs := by
  obtain ⟨v0, v1, v2, v3, v4, v5, y0, y1, y2, y3, y4, y5, n, rfl, h0, h1, h2, h3, h4, h5⟩ := open_agg6 Try.underlying24 (by kernel_rfl) (by kernel_rfl) hval h
  obtain ⟨x0, e0, _⟩ := DataW.trod_int Try.underlying3 h0
  obtain ⟨x1, e1, _⟩ := DataW.trod_int Try.underlying3 h1
  obtain ⟨A, c, rs, e2, hrv⟩ := trod_rows _ _ _ h2
  obtain ⟨x3, e3, _⟩ := DataW.trod_int Try.underlying3 h3
  obtain ⟨x4, e4, _⟩ := DataW.trod_int Try.underlying3 h4
  obtain ⟨x5, e5, _⟩ := DataW.trod_bool Try.underlying4 h5
  simp only [List.cons.injEq, and_true] at e0 e1 e2 e3 e4 e5
  subst e0 e1 e2 e3 e4 e5
  exact ⟨⟨x0, x1, A, c, rs, x3, x4, x5⟩, rfl, hrv⟩
end
end Go.Proofs.Ythohninbelhddaa
