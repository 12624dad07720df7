/-
  The walks of layer 44: Advance at any time. By an AI agent.
-/
import Derived.Test.YtfjkelngdljikaaAd
namespace Go.Proofs.Ytfjkelngdljikaa
set_option linter.unusedVariables false
set_option linter.unusedSimpArgs false
open Go.RowKit Go.Joins Go.Deep

/-- What Advance answers of a proper queue, at any time. -/
def Q.Qa.advR (a : Q.Qa) (time : Int) : Q.Qa × List Q.Sa × Int :=
  if time < 0 ∨ 1099511627776 < time then (Q.qz, [], 2) else if time < a.clock then (Q.qz, [], 10) else ((a.adv time).1, (a.adv time).2, 0)
theorem Q.aout_zero {w w' : World} (n : Int) (hb : Below w.heap.size w w') : Q.AOut (Q.qz, [], n) w w' (.returned (.tuple #[.agg (Q.new 0 0), .slice none 0 0, .int .i64 n])) :=
  ⟨⟨0, 0, false, ⟨Q.zero, none, 0, none, 0⟩, 0, 0, [], none, 0⟩, none, 0, [], rfl, rfl, rfl, ⟨Q.zero_in _ _, ⟨Reads.none_, fun m hm => by cases hm⟩, Nat.le_refl _⟩, ⟨Reads.none_, fun m hm => by cases hm⟩, Nat.le_refl _, hb⟩
set_option maxRecDepth 100000 in
set_option maxHeartbeats 1500000 in
theorem advance_late (q : Q.Qm) (time : Int) (w : World) (n : Int) (hn : (time < 0 ∨ 1099511627776 < time) ∧ n = 2 ∨ ¬ (time < 0 ∨ 1099511627776 < time) ∧ time < q.clock ∧ n = 10) :
    Calls Try.prog 24 #[.agg q.cells.toArray, .int .i64 time] w fun e w' => Q.AOut (Q.qz, [], n) w w' e := by
  obtain ⟨ck, rt, sp, ⟨⟨p0, p1, p2, p3, p4⟩, a0, c0, a1, c1⟩, be, en, items, ai, ci⟩ := q
  simp only [Q.Qm.cells] at hn ⊢
  have b0 := Lib.hid ((below_box w (.cells #[.int .i64 ck, .int .i64 rt, .bool sp, .slice a0 p0.length c0, .slice a1 p1.length c1, .int .i64 p2, .int .i64 p3, .int .i64 p4, .int .i64 be, .int .i64 en, .slice ai items.length ci] 28)).alloc (by simp) (.cells (Q.new 0 0) 28))
  have V1 := heap_alloc_new (w.alloc (.cells #[.int .i64 ck, .int .i64 rt, .bool sp, .slice a0 p0.length c0, .slice a1 p1.length c1, .int .i64 p2, .int .i64 p3, .int .i64 p4, .int .i64 be, .int .i64 en, .slice ai items.length ci] 28)) (.cells (Q.new 0 0) 28)
  rw [World.size_alloc] at V1
  replace V1 := Lib.hid V1
  have HIQ := Lib.hid infoQ
  rcases hn with ⟨hn, rfl⟩ | ⟨hn, hlt, rfl⟩
  · by_cases h1 : time < 0
    · have b1 := Lib.hid b0.out
      have g1 : decide (time < 0) = true := decide_eq_true h1
      clear hn h1
      go_enter Try.func24, Try.ntmps24
      go_wp2_with (refine wpList_store_blk rfl 28 (.tmp 4) (.tmp 18) rfl (w.heap.size + 1) 0 (Q.new 0 0) (Q.new 0 0) 28 ?hx ?hy ?hv (by simp) HIQ.out (by simp [Value.oneCell']) ?_; (case hx => rfl); (case hy => rfl); (case hv => exact V1.out); intro w9 hv9 hg9; (simp [putAt] at hv9))
      have r0 := cell_of_block_ (i := 0) hv9
      have r1 := cell_of_block_ (i := 1) hv9
      have r2 := cell_of_block_ (i := 2) hv9
      have r3 := cell_of_block_ (i := 3) hv9
      have r4 := cell_of_block_ (i := 4) hv9
      have r5 := cell_of_block_ (i := 5) hv9
      have r6 := cell_of_block_ (i := 6) hv9
      have r7 := cell_of_block_ (i := 7) hv9
      have r8 := cell_of_block_ (i := 8) hv9
      have r9 := cell_of_block_ (i := 9) hv9
      have r10 := cell_of_block_ (i := 10) hv9
      simp at r0 r1 r2 r3 r4 r5 r6 r7 r8 r9 r10
      have BE9 := b0.out.trans (below_of_only hg9 (Nat.le_succ _) (by simp; omega))
      exact bodyPost_ret (v := .tuple #[.agg (Q.new 0 0), .slice none 0 0, .int .i64 2]) (by simp [results, Try.results24, go_sem, r0, r1, r2, r3, r4, r5, r6, r7, r8, r9, r10]) rfl (Q.aout_zero _ BE9)
    · have b1 := Lib.hid b0.out
      have g1 : decide (time < 0) = false := decide_eq_false h1
      have g2 : decide (1099511627776 < time) = true := decide_eq_true (by omega)
      clear hn h1
      go_enter Try.func24, Try.ntmps24
      go_wp2_with (refine wpList_store_blk rfl 28 (.tmp 4) (.tmp 18) rfl (w.heap.size + 1) 0 (Q.new 0 0) (Q.new 0 0) 28 ?hx ?hy ?hv (by simp) HIQ.out (by simp [Value.oneCell']) ?_; (case hx => rfl); (case hy => rfl); (case hv => exact V1.out); intro w9 hv9 hg9; (simp [putAt] at hv9))
      have r0 := cell_of_block_ (i := 0) hv9
      have r1 := cell_of_block_ (i := 1) hv9
      have r2 := cell_of_block_ (i := 2) hv9
      have r3 := cell_of_block_ (i := 3) hv9
      have r4 := cell_of_block_ (i := 4) hv9
      have r5 := cell_of_block_ (i := 5) hv9
      have r6 := cell_of_block_ (i := 6) hv9
      have r7 := cell_of_block_ (i := 7) hv9
      have r8 := cell_of_block_ (i := 8) hv9
      have r9 := cell_of_block_ (i := 9) hv9
      have r10 := cell_of_block_ (i := 10) hv9
      simp at r0 r1 r2 r3 r4 r5 r6 r7 r8 r9 r10
      have BE9 := b0.out.trans (below_of_only hg9 (Nat.le_succ _) (by simp; omega))
      exact bodyPost_ret (v := .tuple #[.agg (Q.new 0 0), .slice none 0 0, .int .i64 2]) (by simp [results, Try.results24, go_sem, r0, r1, r2, r3, r4, r5, r6, r7, r8, r9, r10]) rfl (Q.aout_zero _ BE9)
  · have b1 := Lib.hid b0.out
    have g1 : decide (time < 0) = false := decide_eq_false (by omega)
    have g2 : decide (1099511627776 < time) = false := decide_eq_false (by omega)
    have g3 : decide (time < ck) = true := decide_eq_true hlt
    clear hn hlt
    go_enter Try.func24, Try.ntmps24
    go_wp2_with (refine wpList_store_blk rfl 28 (.tmp 4) (.tmp 23) rfl (w.heap.size + 1) 0 (Q.new 0 0) (Q.new 0 0) 28 ?hx ?hy ?hv (by simp) HIQ.out (by simp [Value.oneCell']) ?_; (case hx => rfl); (case hy => rfl); (case hv => exact V1.out); intro w9 hv9 hg9; (simp [putAt] at hv9))
    have r0 := cell_of_block_ (i := 0) hv9
    have r1 := cell_of_block_ (i := 1) hv9
    have r2 := cell_of_block_ (i := 2) hv9
    have r3 := cell_of_block_ (i := 3) hv9
    have r4 := cell_of_block_ (i := 4) hv9
    have r5 := cell_of_block_ (i := 5) hv9
    have r6 := cell_of_block_ (i := 6) hv9
    have r7 := cell_of_block_ (i := 7) hv9
    have r8 := cell_of_block_ (i := 8) hv9
    have r9 := cell_of_block_ (i := 9) hv9
    have r10 := cell_of_block_ (i := 10) hv9
    simp at r0 r1 r2 r3 r4 r5 r6 r7 r8 r9 r10
    have BE9 := b0.out.trans (below_of_only hg9 (Nat.le_succ _) (by simp; omega))
    exact bodyPost_ret (v := .tuple #[.agg (Q.new 0 0), .slice none 0 0, .int .i64 10]) (by simp [results, Try.results24, go_sem, r0, r1, r2, r3, r4, r5, r6, r7, r8, r9, r10]) rfl (Q.aout_zero _ BE9)
theorem advance_any (q : Q.Qm) (time : Int) (B : Nat) (w : World) (h : Q.QIn w B q) (hB : B ≤ w.heap.size) (hsml : q.a.Sml) (hchk : Q.chk q.a = 0) :
    Calls Try.prog 24 #[.agg q.cells.toArray, .int .i64 time] w fun e w' => Q.AOut (q.a.advR time) w w' e := by
  unfold Q.Qa.advR
  by_cases h1 : time < 0 ∨ 1099511627776 < time
  · rw [if_pos h1]
    exact advance_late q time w 2 (.inl ⟨h1, rfl⟩)
  · rw [if_neg h1]
    by_cases h2 : time < q.a.clock
    · rw [if_pos h2]
      exact advance_late q time w 10 (.inr ⟨h1, h2, rfl⟩)
    · rw [if_neg h2]
      exact advance_ok q time B w h hB hsml hchk (by omega) (by omega) (by show q.a.clock ≤ time; omega)
end Go.Proofs.Ytfjkelngdljikaa
