/-
  The walks of layer 44: settled. By an AI agent.
-/
import Derived.Test.YtfjkelngdljikaaQs
namespace Go.Proofs.Ytfjkelngdljikaa
set_option linter.unusedVariables false
set_option linter.unusedSimpArgs false
open Go.RowKit Go.Joins Go.Deep

/-- What may begin, begins. -/
def Q.Qa.settled (a : Q.Qa) : Q.Qa := if a.sp = false ∧ Q.soon a.clock a.items = true then a.begin a.clock else a
/-- What begin asks of the first that waits. -/
def Q.Ready (rt now : Int) (l : List Q.Ut) : Prop := ∀ u r, l = u :: r → u.words.length ≤ 120 ∧ (∀ s ∈ u.words, s.size ≤ 100) ∧ IntKind.i64.wrap (now + Q.dur rt u) = now + Q.dur rt u
set_option maxRecDepth 100000 in
set_option maxHeartbeats 1000000 in
theorem settled_any (q : Q.Qm) (B : Nat) (w : World) (h : Q.QIn w B q) (hB : B ≤ w.heap.size) (hl : q.items.length ≤ maxLen) (hr : Q.Ready q.rate q.clock q.a.items) :
    Calls Try.prog 36 #[.agg q.cells.toArray] w fun e w' => Q.QGave B q.a.settled w w' e := by
  have BG := fun (W : World) (hw : Below w.heap.size w W) (x : Q.Um) (l : List Q.Um) (hx : q.items = x :: l) =>
    have hh := hr x.u (l.map (·.u)) (by simp [Q.Qm.a, hx])
    begin_any q q.clock x l B W (h.below hw hB) (Nat.le_trans hB hw.size) hx hl hh.1 hh.2.1 hh.2.2
  obtain ⟨ck, rt, sp, ⟨⟨p0, p1, p2, p3, p4⟩, a0, c0, a1, c1⟩, be, en, items, ai, ci⟩ := q
  have HH := Lib.hid h
  obtain ⟨hcur, hits, hi⟩ := h
  simp only [Q.Qm.cells, Q.Qm.a] at BG
  simp only at hits hl hi
  simp only [Q.Qm.cells]
  have V1 := heap_alloc_new (w.alloc (.cells #[.int .i64 ck, .int .i64 rt, .bool sp, .slice a0 p0.length c0, .slice a1 p1.length c1, .int .i64 p2, .int .i64 p3, .int .i64 p4, .int .i64 be, .int .i64 en, .slice ai items.length ci] 28)) (.cells (Q.new 0 0) 28)
  rw [World.size_alloc] at V1
  replace V1 := Lib.hid V1
  have HIQ := Lib.hid infoQ
  have b0 := Lib.hid ((below_box w (.cells #[.int .i64 ck, .int .i64 rt, .bool sp, .slice a0 p0.length c0, .slice a1 p1.length c1, .int .i64 p2, .int .i64 p3, .int .i64 p4, .int .i64 be, .int .i64 en, .slice ai items.length ci] 28)).alloc (by simp) (.cells (Q.new 0 0) 28))
  have same : ∀ e w', e = .returned (.agg #[.int .i64 ck, .int .i64 rt, .bool sp, .slice a0 p0.length c0, .slice a1 p1.length c1, .int .i64 p2, .int .i64 p3, .int .i64 p4, .int .i64 be, .int .i64 en, .slice ai items.length ci]) → ¬ (sp = false ∧ Q.soon ck (items.map (·.u)) = true) → Below w.heap.size w w' → Q.QGave B (Q.Qa.settled (Q.Qm.a ⟨ck, rt, sp, ⟨⟨p0, p1, p2, p3, p4⟩, a0, c0, a1, c1⟩, be, en, items, ai, ci⟩)) w w' e := fun e w' he hn hb => by
    refine ⟨⟨ck, rt, sp, ⟨⟨p0, p1, p2, p3, p4⟩, a0, c0, a1, c1⟩, be, en, items, ai, ci⟩, he, ?_, HH.out.below hb hB, hb⟩
    unfold Q.Qa.settled
    exact (if_neg hn).symm
  have SAME := Lib.hid same
  replace BG := Lib.hid BG
  clear same hr hcur
  unfold maxLen at hl
  cases sp with
  | true =>
    go_enter Try.func36, Try.ntmps36
    go_wp2_with fail
    go_quiet (fail)
    go_wp2_with (refine wpList_store_blk rfl 28 (.tmp 2) (.tmp 26) rfl (w.heap.size + 1) 0 #[.int .i64 ck, .int .i64 rt, .bool true, .slice a0 p0.length c0, .slice a1 p1.length c1, .int .i64 p2, .int .i64 p3, .int .i64 p4, .int .i64 be, .int .i64 en, .slice ai items.length ci] (Q.new 0 0) 28 ?hx ?hy ?hv (by simp) HIQ.out (by simp [Value.oneCell']) ?_; (case hx => rfl); (case hy => rfl); (case hv => exact V1.out); intro w5 hv5 hg5; (simp [putAt] at hv5))
    have r0 := cell_of_block_ (i := 0) hv5
    have r1 := cell_of_block_ (i := 1) hv5
    have r2 := cell_of_block_ (i := 2) hv5
    have r3 := cell_of_block_ (i := 3) hv5
    have r4 := cell_of_block_ (i := 4) hv5
    have r5 := cell_of_block_ (i := 5) hv5
    have r6 := cell_of_block_ (i := 6) hv5
    have r7 := cell_of_block_ (i := 7) hv5
    have r8 := cell_of_block_ (i := 8) hv5
    have r9 := cell_of_block_ (i := 9) hv5
    have r10 := cell_of_block_ (i := 10) hv5
    simp at r0 r1 r2 r3 r4 r5 r6 r7 r8 r9 r10
    have BE5 := (below_drewN b0.out _).trans (below_of_only hg5 (Nat.le_succ _) (by simp; omega))
    exact bodyPost_ret (v := .agg #[.int .i64 ck, .int .i64 rt, .bool true, .slice a0 p0.length c0, .slice a1 p1.length c1, .int .i64 p2, .int .i64 p3, .int .i64 p4, .int .i64 be, .int .i64 en, .slice ai items.length ci]) (by simp [results, Try.results36, go_sem, r0, r1, r2, r3, r4, r5, r6, r7, r8, r9, r10]) rfl (SAME.out _ _ rfl (by simp) BE5)
  | false =>
    rcases items with _ | ⟨x, l⟩
    · have hb : decide ((0 : Nat) < 0) = false := rfl
      simp only [List.length_nil]
      simp only [List.length_nil] at SAME V1 b0
      go_enter Try.func36, Try.ntmps36
      go_wp2_with fail
      go_quiet (fail)
      go_wp2_with (refine wpList_store_blk rfl 28 (.tmp 2) (.tmp 26) rfl (w.heap.size + 1) 0 #[.int .i64 ck, .int .i64 rt, .bool false, .slice a0 p0.length c0, .slice a1 p1.length c1, .int .i64 p2, .int .i64 p3, .int .i64 p4, .int .i64 be, .int .i64 en, .slice ai 0 ci] (Q.new 0 0) 28 ?hx ?hy ?hv (by simp) HIQ.out (by simp [Value.oneCell']) ?_; (case hx => rfl); (case hy => rfl); (case hv => exact V1.out); intro w5 hv5 hg5; (simp [putAt] at hv5))
      have r0 := cell_of_block_ (i := 0) hv5
      have r1 := cell_of_block_ (i := 1) hv5
      have r2 := cell_of_block_ (i := 2) hv5
      have r3 := cell_of_block_ (i := 3) hv5
      have r4 := cell_of_block_ (i := 4) hv5
      have r5 := cell_of_block_ (i := 5) hv5
      have r6 := cell_of_block_ (i := 6) hv5
      have r7 := cell_of_block_ (i := 7) hv5
      have r8 := cell_of_block_ (i := 8) hv5
      have r9 := cell_of_block_ (i := 9) hv5
      have r10 := cell_of_block_ (i := 10) hv5
      simp at r0 r1 r2 r3 r4 r5 r6 r7 r8 r9 r10
      have BE5 := (below_drewN b0.out _).trans (below_of_only hg5 (Nat.le_succ _) (by simp; omega))
      exact bodyPost_ret (v := .agg #[.int .i64 ck, .int .i64 rt, .bool false, .slice a0 p0.length c0, .slice a1 p1.length c1, .int .i64 p2, .int .i64 p3, .int .i64 p4, .int .i64 be, .int .i64 en, .slice ai 0 ci]) (by simp [results, Try.results36, go_sem, r0, r1, r2, r3, r4, r5, r6, r7, r8, r9, r10]) rfl (SAME.out _ _ rfl (by simp [Q.soon]) BE5)
    · obtain ⟨b, off, rfl, hbB, hcl⟩ := Q.reads_at hits.row (by simp)
      obtain ⟨z0, z1, z2, z3, z4⟩ := hcl 0 (by simp)
      simp only [Nat.zero_mul, Nat.add_zero, List.getElem_cons_zero] at z0 z1 z2 z3 z4
      have hbw : b < w.heap.size := by omega
      have q1 : (0 : Int) < ((l.length + 1 : Nat) : Int) := by omega
      have hb0 : decide (0 < l.length + 1) = true := decide_eq_true (by omega)
      simp only [List.length_cons, List.map_cons] at SAME V1 b0 BG hi hl ⊢
      clear hcl hits
      by_cases hs : x.u.af ≤ ck
      · have BG1 := fun n => BG.out ((((w.alloc (.cells #[.int .i64 ck, .int .i64 rt, .bool false, .slice a0 p0.length c0, .slice a1 p1.length c1, .int .i64 p2, .int .i64 p3, .int .i64 p4, .int .i64 be, .int .i64 en, .slice (some ⟨b, off, none⟩) (l.length + 1) ci] 28)).alloc (.cells (Q.new 0 0) 28)).drewN n)) (below_drewN b0.out n) x l rfl
        have SET : Hid (Q.Qa.settled (Q.Qm.a ⟨ck, rt, false, ⟨⟨p0, p1, p2, p3, p4⟩, a0, c0, a1, c1⟩, be, en, x :: l, some ⟨b, off, none⟩, ci⟩) = Q.Qa.begin ⟨ck, rt, false, ⟨p0, p1, p2, p3, p4⟩, be, en, x.u :: l.map (·.u)⟩ ck) := Lib.hid (by
          unfold Q.Qa.settled
          exact if_pos ⟨rfl, by simp [Q.Qm.a, Q.soon, hs]⟩)
        have hs' : decide (x.u.af ≤ ck) = true := decide_eq_true hs
        replace BG1 := Lib.hid BG1
        clear SAME BG
        go_enter Try.func36, Try.ntmps36
        go_wp2_with fail
        go_quiet (fail)
        go_wp2_with fail
        refine (BG1.out _).mono ?_
        rintro e w4 ⟨q4, rfl, eq4, in4, b4⟩
        have V4 := Lib.hid ((b4.block (w.heap.size + 1) (by simp)).trans V1.out)
        have BE4 := Lib.hid ((below_drewN b0.out _).trans (b4.mono (by simp; omega)))
        have hs4 : w.heap.size + 2 ≤ w4.heap.size := by have := b4.size; simp at this; omega
        have IN4 := Lib.hid in4
        clear b4 BG1 in4
        go_wp2_with (refine wpList_store_blk rfl 28 (.tmp 2) (.tmp 25) rfl (w.heap.size + 1) 0 q4.cells.toArray (Q.new 0 0) 28 ?hx ?hy ?hv (by simp [Q.Qm.cells]) (by simpa [Q.Qm.cells] using HIQ.out) (by simp [Value.oneCell', Q.Qm.cells]) ?_; (case hx => rfl); (case hy => rfl); (case hv => exact V4.out); intro w5 hv5 hg5)
        have hc5 : putAt (Q.new 0 0).toList 0 q4.cells.toArray.toList = q4.cells := by simp [putAt, Q.Qm.cells]
        rw [hc5] at hv5
        have r0 := cell_of_block_ (i := 0) hv5
        have r1 := cell_of_block_ (i := 1) hv5
        have r2 := cell_of_block_ (i := 2) hv5
        have r3 := cell_of_block_ (i := 3) hv5
        have r4 := cell_of_block_ (i := 4) hv5
        have r5 := cell_of_block_ (i := 5) hv5
        have r6 := cell_of_block_ (i := 6) hv5
        have r7 := cell_of_block_ (i := 7) hv5
        have r8 := cell_of_block_ (i := 8) hv5
        have r9 := cell_of_block_ (i := 9) hv5
        have r10 := cell_of_block_ (i := 10) hv5
        simp [Q.Qm.cells] at r0 r1 r2 r3 r4 r5 r6 r7 r8 r9 r10
        have BE5 := BE4.out.trans (below_of_only hg5 (Nat.le_succ _) (by omega))
        have bg5 : Below B w4 w5 := below_of_only hg5 (by omega) (by omega)
        exact bodyPost_ret (v := .agg q4.cells.toArray) (by simp [results, Try.results36, go_sem, Q.Qm.cells, r0, r1, r2, r3, r4, r5, r6, r7, r8, r9, r10]) rfl ⟨q4, rfl, by rw [eq4, SET.out], IN4.out.below bg5 (Nat.le_refl _), BE5⟩
      · have hs' : decide (x.u.af ≤ ck) = false := decide_eq_false hs
        clear BG
        go_enter Try.func36, Try.ntmps36
        go_wp2_with fail
        go_quiet (fail)
        go_wp2_with (refine wpList_store_blk rfl 28 (.tmp 2) (.tmp 26) rfl (w.heap.size + 1) 0 #[.int .i64 ck, .int .i64 rt, .bool false, .slice a0 p0.length c0, .slice a1 p1.length c1, .int .i64 p2, .int .i64 p3, .int .i64 p4, .int .i64 be, .int .i64 en, .slice (some ⟨b, off, none⟩) (l.length + 1) ci] (Q.new 0 0) 28 ?hx ?hy ?hv (by simp) HIQ.out (by simp [Value.oneCell']) ?_; (case hx => rfl); (case hy => rfl); (case hv => exact V1.out); intro w5 hv5 hg5; (simp [putAt] at hv5))
        have r0 := cell_of_block_ (i := 0) hv5
        have r1 := cell_of_block_ (i := 1) hv5
        have r2 := cell_of_block_ (i := 2) hv5
        have r3 := cell_of_block_ (i := 3) hv5
        have r4 := cell_of_block_ (i := 4) hv5
        have r5 := cell_of_block_ (i := 5) hv5
        have r6 := cell_of_block_ (i := 6) hv5
        have r7 := cell_of_block_ (i := 7) hv5
        have r8 := cell_of_block_ (i := 8) hv5
        have r9 := cell_of_block_ (i := 9) hv5
        have r10 := cell_of_block_ (i := 10) hv5
        simp at r0 r1 r2 r3 r4 r5 r6 r7 r8 r9 r10
        have BE5 := (below_drewN b0.out _).trans (below_of_only hg5 (Nat.le_succ _) (by simp; omega))
        exact bodyPost_ret (v := .agg #[.int .i64 ck, .int .i64 rt, .bool false, .slice a0 p0.length c0, .slice a1 p1.length c1, .int .i64 p2, .int .i64 p3, .int .i64 p4, .int .i64 be, .int .i64 en, .slice (some ⟨b, off, none⟩) (l.length + 1) ci]) (by simp [results, Try.results36, go_sem, r0, r1, r2, r3, r4, r5, r6, r7, r8, r9, r10]) rfl (SAME.out _ _ rfl (by simp [Q.soon]; omega) BE5)
end Go.Proofs.Ytfjkelngdljikaa
