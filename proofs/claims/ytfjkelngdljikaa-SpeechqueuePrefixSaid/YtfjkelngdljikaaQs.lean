/-
  The walks of layer 44: silent, begin, settled. By an AI agent.
-/
import Derived.Test.YtfjkelngdljikaaQw
import Derived.Deep.QuietTactic
import Derived.BigQuiet
namespace Go.Proofs.Ytfjkelngdljikaa
set_option linter.unusedVariables false
set_option linter.unusedSimpArgs false
open Go.RowKit Go.Joins Go.Deep

namespace Q
/-- How long an utterance is spoken. -/
def dur (r : Int) (u : Ut) : Int := D.words (u.words.map (·.size)) r
theorem ucs_drop (l : List Um) (k : Nat) : ucs (l.drop k) = (ucs l).drop (k * 5) := by
  induction l generalizing k with
  | nil => simp [ucs]
  | cons g l ih =>
    cases k with
    | zero => simp
    | succ k =>
      have e : ucs (g :: l) = g.cells ++ ucs l := rfl
      rw [List.drop_succ_cons, ih, e, List.drop_append, Um.cells_len, show List.drop ((k + 1) * 5) g.cells = [] from List.drop_of_length_le (by rw [Um.cells_len]; omega), List.nil_append, show (k + 1) * 5 - 5 = k * 5 by omega]
theorem us_tail {W : World} {B : Nat} {A A' : Option Addr} {x : Um} {l : List Um} (h : UsIn W B A (x :: l)) (hn : 0 < l.length → A' = A.map (·.add 5)) : UsIn W B A' l := by
  refine ⟨⟨by rw [ucs_len], fun h0 => ?_⟩, fun m hm => h.el m (List.mem_cons_of_mem _ hm)⟩
  obtain ⟨ad, rfl, hb, hc⟩ := h.row.2 (by simp)
  refine ⟨ad.add 5, hn h0, by rw [block_of_add]; exact hb, fun j u hu => ?_⟩
  rw [add_of_add]
  refine hc _ u ?_
  have e : ucs (x :: l) = x.cells ++ ucs l := rfl
  rw [e, List.getElem?_append_right (by rw [Um.cells_len]; omega), Um.cells_len, Nat.add_sub_cancel_left]
  exact hu
/-- Where items[1:] lies. -/
def tailAt (A : Option Addr) (c : Nat) : Option Addr := if c = 1 then A else A.map (·.add (1 * 5))
/-- items[1:]. -/
theorem slice_tail (A : Option Addr) {n c : Nat} (hn : 0 < n) (hc : n ≤ c) :
    ∃ A', A' = tailAt A c ∧ (∀ w' : World, (Instr.sliceAt 26 (.slice A n c) (some (.int .i64 1)) none none).run Try.prog w' = .ok (.slice A' (n - 1) (c - 1)) w') ∧ (1 < n → A' = A.map (·.add 5)) := by
  refine ⟨if c = 1 then A else A.map (·.add (1 * 5)), rfl, fun w' => ?_, fun h => by rw [if_neg (by omega)]⟩
  have ht : Try.prog.underlying 26 = some (.slice (Try.prog.elem 26)) := by kernel_rfl
  have hs : (sizeOf (Try.prog.elem 26)).run Try.prog w' = .ok 5 w' := by kernel_rfl
  rw [run_sliceAt_slice _ _ _ _ _ _ ht, run_slice_l _ _ _ _ _ ht .i64 1 (by omega) (by omega), hs]
  simp only [Result.andThen, sliced, Int.toNat_one]
/-- Nothing is spoken. -/
def Qm.silent (q : Qm) : Qm := ⟨q.clock, q.rate, false, ⟨zero, none, 0, none, 0⟩, 0, 0, q.items, q.ai, q.ci⟩
def Qa.silent (a : Qa) : Qa := ⟨a.clock, a.rate, false, zero, 0, 0, a.items⟩
theorem Qm.silent_a (q : Qm) : q.silent.a = q.a.silent := rfl
theorem zero_in (W : World) (B : Nat) : UIn W B ⟨zero, none, 0, none, 0⟩ := ⟨Reads.none_, ⟨[], rfl, ⟨Reads.none_, fun y hy => by cases hy⟩⟩, by simp [zero], by simp [zero]⟩
theorem QIn.silent {W : World} {B : Nat} {q : Qm} (h : QIn W B q) : QIn W B q.silent := ⟨zero_in W B, h.items, h.hi⟩
/-- The first that waits is spoken. -/
def Qa.begin (a : Qa) (now : Int) : Qa :=
  match a.items with
  | [] => a
  | u :: l => ⟨a.clock, a.rate, true, u, now, now + dur a.rate u, l⟩
/-- The first that waits is spoken, with its slices. -/
def Qm.begin (q : Qm) (now : Int) : Qm :=
  match q.items with
  | [] => q
  | x :: l => ⟨q.clock, q.rate, true, x, now, now + dur q.rate x.u, l, tailAt q.ai q.ci, q.ci - 1⟩
theorem Qm.begin_a (q : Qm) (now : Int) : (q.begin now).a = q.a.begin now := by
  obtain ⟨ck, rt, sp, cur, be, en, items, ai, ci⟩ := q
  cases items <;> rfl
theorem QIn.begin {W : World} {B : Nat} {q : Qm} (h : QIn W B q) (now : Int) : QIn W B (q.begin now) := by
  obtain ⟨ck, rt, sp, cur, be, en, items, ai, ci⟩ := q
  cases items with
  | nil => exact h
  | cons x l =>
    have hi := h.hi
    simp only [List.length_cons] at hi
    obtain ⟨_, rfl, _, hai⟩ := slice_tail ai (n := (x :: l).length) (c := ci) (by simp) (by simpa using hi)
    exact ⟨h.items.el x (by simp), us_tail h.items (fun hh => hai (by have : 0 < l.length := hh; simp; omega)), (by show l.length ≤ ci - 1; omega)⟩
end Q
set_option maxRecDepth 100000 in
set_option maxHeartbeats 1000000 in
theorem silent_any (q : Q.Qm) (w : World) : Calls Try.prog 42 #[.agg q.cells.toArray] w fun e w' => e = .returned (.agg q.silent.cells.toArray) ∧ Below w.heap.size w w' := by
  obtain ⟨ck, rt, sp, ⟨⟨p0, p1, p2, p3, p4⟩, a0, c0, a1, c1⟩, be, en, items, ai, ci⟩ := q
  simp only [Q.Qm.cells, Q.Qm.silent, Q.zero, List.length_nil]
  go_enter Try.func42, Try.ntmps42
  go_wp2_with fail
  exact bodyPost_ret (v := .agg #[.int .i64 ck, .int .i64 rt, .bool false, .slice none 0 0, .slice none 0 0, .int .i64 0, .int .i64 0, .int .i64 0, .int .i64 0, .int .i64 0, .slice ai items.length ci]) (by simp [results, Try.results42, go_sem]) rfl ⟨rfl, (below_box w _).alloc (by simp) _⟩
set_option maxRecDepth 100000 in
set_option maxHeartbeats 1000000 in
theorem begin_det (q : Q.Qm) (now : Int) (x : Q.Um) (l : List Q.Um) (B : Nat) (w : World) (h : Q.QIn w B q) (hB : B ≤ w.heap.size) (hx : q.items = x :: l) (hl : q.items.length ≤ maxLen) (hw : x.u.words.length ≤ 120) (hs : ∀ s ∈ x.u.words, s.size ≤ 100) (hwr : IntKind.i64.wrap (now + Q.dur q.rate x.u) = now + Q.dur q.rate x.u) :
    Calls Try.prog 52 #[.agg q.cells.toArray, .int .i64 now] w fun e w' => e = .returned (.agg (q.begin now).cells.toArray) ∧ Below w.heap.size w w' := by
  obtain ⟨ck, rt, sp, ⟨⟨p0, p1, p2, p3, p4⟩, a0, c0, a1, c1⟩, be, en, items, ai, ci⟩ := q
  simp only at hx hl
  subst hx
  obtain ⟨hcur, hits, hi⟩ := h
  simp only at hcur hits hi
  obtain ⟨ai', eai, SL, hai⟩ := Q.slice_tail ai (n := (x :: l).length) (c := ci) (by simp) hi
  have HX := Lib.hid (hits.el x (by simp))
  obtain ⟨b, off, rfl, hbB, hcl⟩ := Q.reads_at hits.row (by simp)
  obtain ⟨z0, z1, z2, z3, z4⟩ := hcl 0 (by simp)
  simp only [Nat.zero_mul, Nat.add_zero, List.getElem_cons_zero] at z0 z1 z2 z3 z4
  have WD := fun (W : World) (hw' : Below w.heap.size w W) => words_any x.aw x.cw B x.u.words rt W (HX.out.w.below hw' hB) (Nat.le_trans hB hw'.size) hw hs
  replace WD := Lib.hid WD
  obtain ⟨⟨u0, u1, u2, u3, u4⟩, a0', c0', a1', c1'⟩ := x
  simp only at z0 z1 z2 z3 z4 WD hw hs
  simp only [Q.dur] at hwr
  simp only [Q.Qm.cells, Q.Qm.begin, Q.dur]
  rw [← eai]
  clear eai
  have hbw : b < w.heap.size := by omega
  simp only [List.length_cons] at SL hi hl ⊢
  have q1 : (0 : Int) < ((l.length + 1 : Nat) : Int) := by omega
  have q2 : (1 : Int) ≤ ((l.length + 1 : Nat) : Int) := by omega
  clear hcl hai hcur hits
  go_enter Try.func52, Try.ntmps52
  go_wp2_with fail
  go_region
  go_wp2_with fail
  have b0 : Below w.heap.size w ((w.alloc (.cells #[.int .i64 ck, .int .i64 rt, .bool true, .slice a0' u0.length c0', .slice a1' u1.length c1', .int .i64 u2, .int .i64 u3, .int .i64 u4, .int .i64 now, .int .i64 en, .slice ai' l.length (ci - 1)] 28)).alloc (.cells (Q.new 0 0) 28)).drew := ((below_box w _).alloc (by simp) _).drew
  have V0 : ((w.alloc (.cells #[.int .i64 ck, .int .i64 rt, .bool true, .slice a0' u0.length c0', .slice a1' u1.length c1', .int .i64 u2, .int .i64 u3, .int .i64 u4, .int .i64 now, .int .i64 en, .slice ai' l.length (ci - 1)] 28)).alloc (.cells (Q.new 0 0) 28)).drew.heap[w.heap.size]? = some (.cells #[.int .i64 ck, .int .i64 rt, .bool true, .slice a0' u0.length c0', .slice a1' u1.length c1', .int .i64 u2, .int .i64 u3, .int .i64 u4, .int .i64 now, .int .i64 en, .slice ai' l.length (ci - 1)] 28 (0, 0)) := heap_old2 (w.alloc _) _ (heap_alloc_new w _)
  have V1 : ((w.alloc (.cells #[.int .i64 ck, .int .i64 rt, .bool true, .slice a0' u0.length c0', .slice a1' u1.length c1', .int .i64 u2, .int .i64 u3, .int .i64 u4, .int .i64 now, .int .i64 en, .slice ai' l.length (ci - 1)] 28)).alloc (.cells (Q.new 0 0) 28)).drew.heap[w.heap.size + 1]? = some (.cells (Q.new 0 0) 28 (0, 0)) := by
    have := heap_alloc_new (w.alloc (.cells #[.int .i64 ck, .int .i64 rt, .bool true, .slice a0' u0.length c0', .slice a1' u1.length c1', .int .i64 u2, .int .i64 u3, .int .i64 u4, .int .i64 now, .int .i64 en, .slice ai' l.length (ci - 1)] 28)) (.cells (Q.new 0 0) 28)
    rwa [World.size_alloc] at this
  have s0 : ((w.alloc (.cells #[.int .i64 ck, .int .i64 rt, .bool true, .slice a0' u0.length c0', .slice a1' u1.length c1', .int .i64 u2, .int .i64 u3, .int .i64 u4, .int .i64 now, .int .i64 en, .slice ai' l.length (ci - 1)] 28)).alloc (.cells (Q.new 0 0) 28)).drew.heap.size = w.heap.size + 2 := by simp
  obtain ⟨w1, hw1⟩ : ∃ w1, ((w.alloc (.cells #[.int .i64 ck, .int .i64 rt, .bool true, .slice a0' u0.length c0', .slice a1' u1.length c1', .int .i64 u2, .int .i64 u3, .int .i64 u4, .int .i64 now, .int .i64 en, .slice ai' l.length (ci - 1)] 28)).alloc (.cells (Q.new 0 0) 28)).drew = w1 := ⟨_, rfl⟩
  rw [hw1] at b0 V0 V1 s0 ⊢
  clear hw1 SL z0 z1 z2 z3 z4
  refine (WD.out _ b0).mono ?_
  rintro e w2 ⟨rfl, bb⟩
  obtain ⟨dv, hdv⟩ : ∃ dv, D.words (u0.map (·.size)) rt = dv := ⟨_, rfl⟩
  have HDV := Lib.hid hdv
  rw [hdv] at hwr
  rw [hdv]
  clear hdv
  have B1 := Lib.hid (b0.trans (bb.mono b0.size))
  have VB1 := Lib.hid ((bb.block w.heap.size (by omega)).trans V0)
  have VR1 := Lib.hid ((bb.block (w.heap.size + 1) (by omega)).trans V1)
  have hs1 : w.heap.size + 2 ≤ w2.heap.size := by have := bb.size; omega
  have HIQ := Lib.hid infoQ
  clear b0 V0 V1 s0 bb WD
  obtain ⟨N, hN⟩ : ∃ N, w.heap.size = N := ⟨_, rfl⟩
  rw [hN] at B1 VB1 VR1 hs1 hB hbw ⊢
  have k0 := cell_of_block_ (i := 0) VB1.out
  have k1 := cell_of_block_ (i := 1) VB1.out
  have k2 := cell_of_block_ (i := 2) VB1.out
  have k3 := cell_of_block_ (i := 3) VB1.out
  have k4 := cell_of_block_ (i := 4) VB1.out
  have k5 := cell_of_block_ (i := 5) VB1.out
  have k6 := cell_of_block_ (i := 6) VB1.out
  have k7 := cell_of_block_ (i := 7) VB1.out
  have k8 := cell_of_block_ (i := 8) VB1.out
  have k9 := cell_of_block_ (i := 9) VB1.out
  have k10 := cell_of_block_ (i := 10) VB1.out
  simp at k0 k1 k2 k3 k4 k5 k6 k7 k8 k9 k10
  have f9 := unfrozen_of_block VB1.out 9
  have V4 := Lib.hid (block_setCell (i := 9) VB1.out (.int .i64 (now + dv)))
  have hg4 : w2.grownBy (w2.setCell ⟨N, 9, none⟩ (.int .i64 (now + dv))) (some N) := only_setCell (World.grownBy.refl w2 (some N)) (.inl rfl) _
  have VR4 := Lib.hid ((hg4.block (N + 1) (by omega) (by simp)).trans VR1.out)
  have BE4 := Lib.hid (B1.out.trans (below_of_only hg4 (Nat.le_refl N) (by omega)))
  have hs4 : N + 2 ≤ (w2.setCell ⟨N, 9, none⟩ (.int .i64 (now + dv))).heap.size := Nat.le_trans hs1 hg4.size
  clear hg4
  go_wp2_with (refine wpList_store_blk rfl 28 (.tmp 4) (.tmp 26) rfl (N + 1) 0 #[.int .i64 ck, .int .i64 rt, .bool true, .slice a0' u0.length c0', .slice a1' u1.length c1', .int .i64 u2, .int .i64 u3, .int .i64 u4, .int .i64 now, .int .i64 (now + dv), .slice ai' l.length (ci - 1)] _ 28 ?hx ?hy VR4.out (by simp) HIQ.out (by simp [Value.oneCell']) ?_; (case hx => rfl); (case hy => rfl); intro w5 hv5 hg5; (simp [putAt] at hv5))
  have r0 := cell_of_block_ (i := 0) hv5
  have r1 := cell_of_block_ (i := 1) hv5
  have r2 := cell_of_block_ (i := 2) hv5
  have r3 := cell_of_block_ (i := 3) hv5
  have r4 := cell_of_block_ (i := 4) hv5
  have r5 := cell_of_block_ (i := 5) hv5
  have r6 := cell_of_block_ (i := 6) hv5
  have r7 := cell_of_block_ (i := 7) hv5
  have r8 := cell_of_block_ (i := 8) hv5
  have r9 := cell_of_block_ (i := 9) hv5
  have r10 := cell_of_block_ (i := 10) hv5
  simp at r0 r1 r2 r3 r4 r5 r6 r7 r8 r9 r10
  have BE5 := BE4.out.trans (below_of_only hg5 (Nat.le_succ N) (by omega))
  refine bodyPost_ret (v := .agg #[.int .i64 ck, .int .i64 rt, .bool true, .slice a0' u0.length c0', .slice a1' u1.length c1', .int .i64 u2, .int .i64 u3, .int .i64 u4, .int .i64 now, .int .i64 (now + dv), .slice ai' l.length (ci - 1)]) (by simp [results, Try.results52, go_sem, r0, r1, r2, r3, r4, r5, r6, r7, r8, r9, r10]) rfl ⟨by rw [HDV.out], by rw [hN]; exact BE5⟩
theorem begin_any (q : Q.Qm) (now : Int) (x : Q.Um) (l : List Q.Um) (B : Nat) (w : World) (h : Q.QIn w B q) (hB : B ≤ w.heap.size) (hx : q.items = x :: l) (hl : q.items.length ≤ maxLen) (hw : x.u.words.length ≤ 120) (hs : ∀ s ∈ x.u.words, s.size ≤ 100) (hwr : IntKind.i64.wrap (now + Q.dur q.rate x.u) = now + Q.dur q.rate x.u) :
    Calls Try.prog 52 #[.agg q.cells.toArray, .int .i64 now] w fun e w' => Q.QGave B (q.a.begin now) w w' e :=
  (begin_det q now x l B w h hB hx hl hw hs hwr).mono fun e w' ⟨e1, b1⟩ => ⟨q.begin now, e1, q.begin_a now, (h.begin now).below b1 hB, b1⟩
end Go.Proofs.Ytfjkelngdljikaa
