/-
  A table of costs that came in; the row's own struct. By an AI agent.
-/
import Derived.Deep.Strs
import Derived.Lib.SmallJoins
import Derived.Test.YtnekhlklflgodaaOpen
import Derived.Test.YtnekhlklflgodaaOmt
namespace Go.Proofs.Ytnekhlklflgodaa
open Go.Joins Go.ChangeShapes Go.WideShapes Go.ChangeAt Go.RowKit Go.Deep

section
variable {H : Type} {enc : TypeId × Value → H} {W : World}
theorem trod_int1 (n : Nat) (cs : List Value) (y : DataW H × List MemPlace) (h : DataW.trod enc Try.prog W 0 (fun _ => true) true n 3 cs = some y) (_ : cs.length = 1) : ∃ x : Int, cs = [.int .i64 x] ∧ (Lit.int .i64 x).wf = true := by
  obtain ⟨x, hx, _, hw⟩ := DataW.trod_int Try.underlying3 h
  exact ⟨x, hx, hw⟩
theorem flat_nsv (l : List Int) : l.flatMap (fun x => [Value.int .i64 x]) = C.ns l := by unfold C.ns; induction l <;> simp_all
theorem trod_ints (n : Nat) (cs : List Value) (y : DataW H × List MemPlace) (h : DataW.trod enc Try.prog W 0 (fun _ => true) true n 23 cs = some y) :
    ∃ r : Option Addr × Nat × List Int, cs = [C.slv r] ∧ Reads W W.heap.size 1 r.1 r.2.2.length (C.ns r.2.2) ∧ r.2.2.length ≤ maxLen := by
  obtain ⟨A, c, xs, hs, hr, hg, hm, _, _⟩ := trod_sl (α := Int) (enc' := fun x => [.int .i64 x]) (good := fun x => (Lit.int .i64 x).wf = true) Try.underlying23 (size := 1) (by kernel_rfl) (by decide) trod_int1 h
  rw [flat_nsv] at hr
  exact ⟨(A, c, xs), hs, hr, hm⟩
theorem flat_slv (rs : List (Option Addr × Nat × List Int)) : rs.flatMap (fun r => [C.slv r]) = rs.map C.slv := by induction rs <;> simp_all
theorem open_mat {r : Reach} {b0 : Nat} {v : Value} {d : DataW H} {ps : List MemPlace} (hval : Value.okWide Try.prog W r b0 22 v) (h : DataW.Trod enc Try.prog W 0 (fun _ => true) true 22 v d ps) :
    ∃ (A : Option Addr) (c : Nat) (rs : List (Option Addr × Nat × List Int)), v = .slice A rs.length c ∧ C.Mx W W.heap.size A rs := by
  obtain ⟨A, c, xs, h0, h1, h2, h3, _, _⟩ := open_sl (α := Option Addr × Nat × List Int) (enc' := fun r => [C.slv r]) (good := fun r => Reads W W.heap.size 1 r.1 r.2.2.length (C.ns r.2.2) ∧ r.2.2.length ≤ maxLen) Try.underlying22 (size := 1) (by kernel_rfl) (by omega) (fun n cs y hy _ => by
    obtain ⟨r, e1, e2⟩ := trod_ints n cs y hy
    exact ⟨r, e1, e2⟩) hval h
  rw [flat_slv] at h1
  exact ⟨A, c, xs, h0, h1, fun r hr => (h2 r hr).1, h3⟩
theorem open_shift {r : Reach} {b0 : Nat} {v : Value} {d : DataW H} {ps : List MemPlace} (hval : Value.okWide Try.prog W r b0 36 v) (h : DataW.Trod enc Try.prog W 0 (fun _ => true) true 36 v d ps) :
    ∃ (A : Option Addr) (c : Nat) (l : List Int) (s a b : Int), v = .agg #[.slice A l.length c, .int .u8 s, .int .u8 a, .int .u8 b] ∧ Reads W W.heap.size 1 A l.length (C.ns l) ∧ l.length ≤ maxLen ∧ (Lit.int .u8 s).wf = true ∧ (Lit.int .u8 a).wf = true ∧ (Lit.int .u8 b).wf = true := by
  obtain ⟨v0, v1, v2, v3, y0, y1, y2, y3, n, rfl, _, _, h0, h1, h2, h3⟩ := open_agg4 Try.underlying36 (by kernel_rfl) (by kernel_rfl) hval h
  obtain ⟨r0, e0, hr, hm⟩ := trod_ints _ _ _ h0
  obtain ⟨x1, e1, _, w1⟩ := DataW.trod_int Try.underlying5 h1
  obtain ⟨x2, e2, _, w2⟩ := DataW.trod_int Try.underlying5 h2
  obtain ⟨x3, e3, _, w3⟩ := DataW.trod_int Try.underlying5 h3
  simp only [List.cons.injEq, and_true] at e0 e1 e2 e3
  subst e0 e1 e2 e3
  exact ⟨r0.1, r0.2.1, r0.2.2, x1, x2, x3, rfl, hr, hm, w1, w2, w3⟩
end
end Go.Proofs.Ytnekhlklflgodaa
