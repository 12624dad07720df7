/-
  Queues and utterances that came in. By an AI agent.
-/
import Derived.Deep.Strs
import Derived.Test.YtfjkelngdljikaaOpen
import Derived.Test.YtfjkelngdljikaaGr
namespace Go.Proofs.Ytfjkelngdljikaa
set_option linter.unusedSimpArgs false
set_option linter.unusedVariables false
open Go.ChangeShapes Go.WideShapes Go.ChangeAt Go.RowKit

section
variable {H : Type} {enc : TypeId × Value → H} {P : Program} {w : World} {base : Nat} {spare : Nat → Bool} {held : Bool}
theorem trod_struct5 {t : TypeId} {f0 f1 f2 f3 f4 : Field} {fuel : Nat} {cs : List Value} {x : DataW H × List MemPlace} (ht : P.underlying t = some (.struct #[f0, f1, f2, f3, f4])) (h : DataW.trod enc P w base spare held fuel t cs = some x) :
    ∃ (y0 y1 y2 y3 y4 : DataW H × List MemPlace) (n : Nat), DataW.trod enc P w base spare held n f0.type ((cs.drop f0.offset).take (P.cellsOf f0.type)) = some y0 ∧ DataW.trod enc P w base spare held n f1.type ((cs.drop f1.offset).take (P.cellsOf f1.type)) = some y1 ∧ DataW.trod enc P w base spare held n f2.type ((cs.drop f2.offset).take (P.cellsOf f2.type)) = some y2 ∧ DataW.trod enc P w base spare held n f3.type ((cs.drop f3.offset).take (P.cellsOf f3.type)) = some y3 ∧ DataW.trod enc P w base spare held n f4.type ((cs.drop f4.offset).take (P.cellsOf f4.type)) = some y4 := by
  obtain ⟨xs, n, _, rfl, hl, hlen, hf⟩ := DataW.trod_struct ht h
  match xs, hlen with
  | [y0, y1, y2, y3, y4], _ => exact ⟨y0, y1, y2, y3, y4, n, by simpa using hf 0 f0 rfl, by simpa using hf 1 f1 rfl, by simpa using hf 2 f2 rfl, by simpa using hf 3 f3 rfl, by simpa using hf 4 f4 rfl⟩
theorem trod_struct6 {t : TypeId} {f0 f1 f2 f3 f4 f5 : Field} {fuel : Nat} {cs : List Value} {x : DataW H × List MemPlace} (ht : P.underlying t = some (.struct #[f0, f1, f2, f3, f4, f5])) (h : DataW.trod enc P w base spare held fuel t cs = some x) :
    ∃ (y0 y1 y2 y3 y4 y5 : DataW H × List MemPlace) (n : Nat), DataW.trod enc P w base spare held n f0.type ((cs.drop f0.offset).take (P.cellsOf f0.type)) = some y0 ∧ DataW.trod enc P w base spare held n f1.type ((cs.drop f1.offset).take (P.cellsOf f1.type)) = some y1 ∧ DataW.trod enc P w base spare held n f2.type ((cs.drop f2.offset).take (P.cellsOf f2.type)) = some y2 ∧ DataW.trod enc P w base spare held n f3.type ((cs.drop f3.offset).take (P.cellsOf f3.type)) = some y3 ∧ DataW.trod enc P w base spare held n f4.type ((cs.drop f4.offset).take (P.cellsOf f4.type)) = some y4 ∧ DataW.trod enc P w base spare held n f5.type ((cs.drop f5.offset).take (P.cellsOf f5.type)) = some y5 := by
  obtain ⟨xs, n, _, rfl, hl, hlen, hf⟩ := DataW.trod_struct ht h
  match xs, hlen with
  | [y0, y1, y2, y3, y4, y5], _ => exact ⟨y0, y1, y2, y3, y4, y5, n, by simpa using hf 0 f0 rfl, by simpa using hf 1 f1 rfl, by simpa using hf 2 f2 rfl, by simpa using hf 3 f3 rfl, by simpa using hf 4 f4 rfl, by simpa using hf 5 f5 rfl⟩
theorem trod_struct7 {t : TypeId} {f0 f1 f2 f3 f4 f5 f6 : Field} {fuel : Nat} {cs : List Value} {x : DataW H × List MemPlace} (ht : P.underlying t = some (.struct #[f0, f1, f2, f3, f4, f5, f6])) (h : DataW.trod enc P w base spare held fuel t cs = some x) :
    ∃ (y0 y1 y2 y3 y4 y5 y6 : DataW H × List MemPlace) (n : Nat), DataW.trod enc P w base spare held n f0.type ((cs.drop f0.offset).take (P.cellsOf f0.type)) = some y0 ∧ DataW.trod enc P w base spare held n f1.type ((cs.drop f1.offset).take (P.cellsOf f1.type)) = some y1 ∧ DataW.trod enc P w base spare held n f2.type ((cs.drop f2.offset).take (P.cellsOf f2.type)) = some y2 ∧ DataW.trod enc P w base spare held n f3.type ((cs.drop f3.offset).take (P.cellsOf f3.type)) = some y3 ∧ DataW.trod enc P w base spare held n f4.type ((cs.drop f4.offset).take (P.cellsOf f4.type)) = some y4 ∧ DataW.trod enc P w base spare held n f5.type ((cs.drop f5.offset).take (P.cellsOf f5.type)) = some y5 ∧ DataW.trod enc P w base spare held n f6.type ((cs.drop f6.offset).take (P.cellsOf f6.type)) = some y6 := by
  obtain ⟨xs, n, _, rfl, hl, hlen, hf⟩ := DataW.trod_struct ht h
  match xs, hlen with
  | [y0, y1, y2, y3, y4, y5, y6], _ => exact ⟨y0, y1, y2, y3, y4, y5, y6, n, by simpa using hf 0 f0 rfl, by simpa using hf 1 f1 rfl, by simpa using hf 2 f2 rfl, by simpa using hf 3 f3 rfl, by simpa using hf 4 f4 rfl, by simpa using hf 5 f5 rfl, by simpa using hf 6 f6 rfl⟩
end
/-- What is known of a change that came in. -/
def R.CGood (W : World) (x : R.Cs) : Prop := (∃ A' c, x.sl = .slice A' x.c.gl.length c ∧ Reads W W.heap.size 3 A' x.c.gl.length (R.gcs x.c.gl) ∧ x.c.gl.length ≤ c) ∧ x.c.gl.length ≤ maxLen
/-- What is known of an utterance that came in. -/
def Q.UGood (W : World) (m : Q.Um) : Prop := Q.UIn W W.heap.size m ∧ m.u.Fits
instance : Inhabited R.Cs := ⟨⟨⟨0, 0, 0, 0, 0, []⟩, .slice none 0 0⟩⟩
instance : Inhabited Q.Um := ⟨⟨Q.zero, none, 0, none, 0⟩⟩
section
variable {H : Type} {enc : TypeId × Value → H} {W : World}
theorem trod_glyph (n : Nat) (cs : List Value) (y : DataW H × List MemPlace) (h : DataW.trod enc Try.prog W 0 (fun _ => true) true n 78 cs = some y) (hl : cs.length = 3) : ∃ g : R.G, cs = g.cells ∧ g.t.size ≤ maxLen := by
  obtain ⟨y0, y1, y2, m, _, _, h0, h1, h2⟩ := Go.Deep.trod_struct3 Try.underlying78 h
  match cs, hl with
  | [c0, c1, c2], _ =>
    have e9 : Try.prog.cellsOf 9 = 1 := by kernel_rfl
    have e4 : Try.prog.cellsOf 4 = 1 := by kernel_rfl
    have e3 : Try.prog.cellsOf 3 = 1 := by kernel_rfl
    simp only [e9, e4, e3, List.drop_zero, List.drop_succ_cons, List.take_succ_cons, List.take_zero] at h0 h1 h2
    obtain ⟨s, hs, _, hz⟩ := DataW.trod_string Try.underlying9 h0
    obtain ⟨b, hb, _⟩ := DataW.trod_bool Try.underlying4 h1
    obtain ⟨x, hx, _⟩ := DataW.trod_int Try.underlying3 h2
    simp only [List.cons.injEq, and_true] at hs hb hx
    subst hs hb hx
    exact ⟨⟨s, b, x⟩, rfl, hz⟩
theorem strs_flat : ∀ ws : List ByteArray, ws.flatMap (fun s => [Value.string s]) = ws.map Value.string
  | [] => rfl
  | s :: l => by rw [List.flatMap_cons, strs_flat l]; rfl
theorem trod_str1 (n : Nat) (cs : List Value) (y : DataW H × List MemPlace) (h : DataW.trod enc Try.prog W 0 (fun _ => true) true n 9 cs = some y) (hl : cs.length = 1) : ∃ s : ByteArray, cs = [Value.string s] ∧ s.size ≤ maxLen := by
  obtain ⟨s, hs, _, hz⟩ := DataW.trod_string Try.underlying9 h
  exact ⟨s, hs, hz⟩
theorem trod_change (n : Nat) (cs : List Value) (y : DataW H × List MemPlace) (h : DataW.trod enc Try.prog W 0 (fun _ => true) true n 61 cs = some y) (hl : cs.length = 6) : ∃ x : R.Cs, cs = x.cells ∧ R.CGood W x := by
  obtain ⟨y0, y1, y2, y3, y4, y5, m, h0, h1, h2, h3, h4, h5⟩ := trod_struct6 Try.underlying61 h
  match cs, hl with
  | [k0, k1, k2, k3, k4, k5], _ =>
    have e3 : Try.prog.cellsOf 3 = 1 := by kernel_rfl
    have e22 : Try.prog.cellsOf 59 = 1 := by kernel_rfl
    have e33 : Try.prog.cellsOf 78 = 3 := by kernel_rfl
    simp only [e3, e22, List.drop_zero, List.drop_succ_cons, List.take_succ_cons, List.take_zero] at h0 h1 h2 h3 h4 h5
    obtain ⟨x0, e10, _, w0⟩ := DataW.trod_int Try.underlying3 h0
    obtain ⟨x1, e11, _, w1⟩ := DataW.trod_int Try.underlying3 h1
    obtain ⟨x2, e12, _, w2⟩ := DataW.trod_int Try.underlying3 h2
    obtain ⟨x3, e13, _, w3⟩ := DataW.trod_int Try.underlying3 h3
    obtain ⟨x4, e14, _, w4⟩ := DataW.trod_int Try.underlying3 h4
    obtain ⟨A, c, xs, hs, hr, _, hm, _, hc⟩ := trod_sl (α := R.G) (enc' := R.G.cells) (good := fun g => g.t.size ≤ maxLen) Try.underlying59 e33 (by decide) trod_glyph h5
    simp only [List.cons.injEq, and_true] at e10 e11 e12 e13 e14 hs
    subst e10 e11 e12 e13 e14 hs
    exact ⟨⟨⟨x0, x1, x2, x3, x4, xs⟩, .slice A xs.length c⟩, rfl, ⟨A, c, rfl, hr, hc⟩, hm⟩
theorem trod_ut (n : Nat) (cs : List Value) (y : DataW H × List MemPlace) (h : DataW.trod enc Try.prog W 0 (fun _ => true) true n 25 cs = some y) (hl : cs.length = 5) : ∃ m : Q.Um, cs = m.cells ∧ Q.UGood W m := by
  obtain ⟨y0, y1, y2, y3, y4, m, h0, h1, h2, h3, h4⟩ := trod_struct5 Try.underlying25 h
  match cs, hl with
  | [k0, k1, k2, k3, k4], _ =>
    have e3 : Try.prog.cellsOf 3 = 1 := by kernel_rfl
    have e22 : Try.prog.cellsOf 22 = 1 := by kernel_rfl
    have e23 : Try.prog.cellsOf 23 = 1 := by kernel_rfl
    have e9 : Try.prog.cellsOf 9 = 1 := by kernel_rfl
    have e61 : Try.prog.cellsOf 61 = 6 := by kernel_rfl
    simp only [e3, e22, e23, List.drop_zero, List.drop_succ_cons, List.take_succ_cons, List.take_zero] at h0 h1 h2 h3 h4
    obtain ⟨A0, c0, ws, hs0, hr0, hg0, hm0, _, hc0⟩ := trod_sl (α := ByteArray) (enc' := fun s => [Value.string s]) (good := fun s => s.size ≤ maxLen) Try.underlying22 e9 (by decide) trod_str1 h0
    obtain ⟨A1, c1, xs, hs1, hr1, hg1, hm1, _, hc1⟩ := trod_sl (α := R.Cs) (enc' := R.Cs.cells) (good := R.CGood W) Try.underlying23 e61 (by decide) trod_change h1
    obtain ⟨x2, e12, _, w2⟩ := DataW.trod_int Try.underlying3 h2
    obtain ⟨x3, e13, _, w3⟩ := DataW.trod_int Try.underlying3 h3
    obtain ⟨x4, e14, _, w4⟩ := DataW.trod_int Try.underlying3 h4
    simp only [List.cons.injEq, and_true] at e12 e13 e14 hs0 hs1
    subst e12 e13 e14 hs0 hs1
    rw [strs_flat] at hr0
    have ex : (xs.map (·.c)).length = xs.length := List.length_map _
    refine ⟨⟨⟨ws, xs.map (·.c), x2, x3, x4⟩, A0, c0, A1, c1⟩, by simp [Q.Um.cells], ⟨hr0, ⟨xs, rfl, ⟨hr1, fun x hx => (hg1 x hx).1.1⟩⟩, hc0, by simpa using hc1⟩, ⟨hm0, by simpa using hm1, fun c hc => ?_⟩, fun s hs => (hg0 s hs).1⟩
    obtain ⟨x, hx, rfl⟩ := List.mem_map.1 hc
    exact (hg1 x hx).1.2
theorem open_uts {r : Reach} {b0 : Nat} {v : Value} {d : DataW H} {ps : List MemPlace} (hval : Value.okWide Try.prog W r b0 26 v) (h : DataW.Trod enc Try.prog W 0 (fun _ => true) true 26 v d ps) :
    ∃ (A : Option Addr) (c : Nat) (l : List Q.Um), v = .slice A l.length c ∧ Q.UsIn W W.heap.size A l ∧ (∀ m ∈ l, m.u.Fits) ∧ l.length ≤ maxLen ∧ l.length ≤ c := by
  obtain ⟨A, c, xs, h0, h1, h2, h3, _, h5⟩ := open_sl (α := Q.Um) (enc' := Q.Um.cells) (good := Q.UGood W) Try.underlying26 (by kernel_rfl) (by decide) trod_ut hval h
  exact ⟨A, c, xs, h0, ⟨h1, fun m hm => (h2 m hm).1.1⟩, fun m hm => (h2 m hm).1.2, h3, h5⟩
/-- What is known of a queue that came in. -/
structure Q.QGood (W : World) (q : Q.Qm) : Prop where
  i : Q.QIn W W.heap.size q
  len : q.items.length ≤ maxLen
  fits : ∀ m ∈ q.items, m.u.Fits
  cur : q.cur.u.Fits
  clock : -9223372036854775808 ≤ q.clock ∧ q.clock ≤ 9223372036854775807
  be : -9223372036854775808 ≤ q.be ∧ q.be ≤ 9223372036854775807
  en : -9223372036854775808 ≤ q.en ∧ q.en ≤ 9223372036854775807
theorem trod_q (n : Nat) (cs : List Value) (y : DataW H × List MemPlace) (h : DataW.trod enc Try.prog W 0 (fun _ => true) true n 28 cs = some y) (hl : cs.length = 11) : ∃ q : Q.Qm, cs = q.cells ∧ Q.QGood W q := by
  obtain ⟨y0, y1, y2, y3, y4, y5, y6, m, h0, h1, h2, h3, h4, h5, h6⟩ := trod_struct7 Try.underlying28 h
  match cs, hl with
  | [k0, k1, k2, k3, k4, k5, k6, k7, k8, k9, k10], _ =>
    have e3 : Try.prog.cellsOf 3 = 1 := by kernel_rfl
    have e4 : Try.prog.cellsOf 4 = 1 := by kernel_rfl
    have e25 : Try.prog.cellsOf 25 = 5 := by kernel_rfl
    have e26 : Try.prog.cellsOf 26 = 1 := by kernel_rfl
    simp only [e3, e4, e25, e26, List.drop_zero, List.drop_succ_cons, List.take_succ_cons, List.take_zero] at h0 h1 h2 h3 h4 h5 h6
    obtain ⟨x0, e10, _, w0⟩ := DataW.trod_int Try.underlying3 h0
    obtain ⟨x1, e11, _, w1⟩ := DataW.trod_int Try.underlying3 h1
    obtain ⟨b2, e12, _⟩ := DataW.trod_bool Try.underlying4 h2
    obtain ⟨cu, ecu, gcu⟩ := trod_ut _ _ _ h3 rfl
    obtain ⟨x8, e18, _, w8⟩ := DataW.trod_int Try.underlying3 h4
    obtain ⟨x9, e19, _, w9⟩ := DataW.trod_int Try.underlying3 h5
    obtain ⟨A, c, xs, hs, hr, hg, hm, _, hc⟩ := trod_sl (α := Q.Um) (enc' := Q.Um.cells) (good := Q.UGood W) Try.underlying26 e25 (by decide) trod_ut h6
    simp only [List.cons.injEq, and_true, Q.Um.cells] at e10 e11 e12 e18 e19 hs ecu
    obtain ⟨f3, f4, f5, f6, f7⟩ := ecu
    subst e10 e11 e12 e18 e19 hs f3 f4 f5 f6 f7
    exact ⟨⟨x0, x1, b2, cu, x8, x9, xs, A, c⟩, rfl, ⟨gcu.1, ⟨hr, fun m hm => (hg m hm).1.1⟩, hc⟩, hm, fun m hm => (hg m hm).1.2, gcu.2, wf_i64 w0, wf_i64 w8, wf_i64 w9⟩
theorem open_q {r : Reach} {b0 : Nat} {v : Value} {d : DataW H} {ps : List MemPlace} (hval : Value.okWide Try.prog W r b0 28 v) (h : DataW.Trod enc Try.prog W 0 (fun _ => true) true 28 v d ps) : ∃ q : Q.Qm, v = .agg q.cells.toArray ∧ Q.QGood W q := by
  obtain ⟨cs, rfl, hsz⟩ := okWide_struct Try.underlying28 hval
  obtain ⟨fuel, hf⟩ := h
  have hC : Try.prog.cellsOf 28 = 11 := by kernel_rfl
  obtain ⟨q, e, hq⟩ := trod_q fuel cs.toList _ hf (by rw [Array.length_toList, hsz, hC])
  refine ⟨q, ?_, hq⟩
  rw [← e]
end
end Go.Proofs.Ytfjkelngdljikaa
