/-
  The statements of layer 22: SegmentSteps. By an AI agent.
-/
import Derived.Test.YthfpiomooomhoaaStep3
namespace Go.Proofs.Ythfpiomooomhoaa
open Go.RowKit

set_option maxRecDepth 10000 in
set_option maxHeartbeats 4000000 in
theorem stepslaw_any (A : Option Addr) (c B : Nat) (l : List (Int × Int)) (at_ : Int) (w : World) (hr : Reads w B 2 A l.length (l.flatMap S.zc)) (hB : B ≤ w.heap.size) (hm : l.length ≤ maxLen) (_ : -9223372036854775808 ≤ at_) (_ : at_ ≤ 9223372036854775807) :
    Calls Try.prog 9 #[.slice A l.length c, .int .i64 at_] w fun e w' => e = .returned (.bool true) ∧ Below w.heap.size w w' := by
  unfold maxLen at hm
  have HR := Lib.hid hr
  clear hr
  by_cases h200 : 200 < l.length
  · go_enter Try.func9, Try.ntmps9
    go_wp2_with (go_at_call 12; refine (awake_any _).mono ?_; rintro e w' ⟨rfl, hb⟩)
    go_ret
    exact ⟨rfl, hb⟩
  · have N1 := Lib.hid (next_any at_ A c B l w HR.out hB (by omega))
    have N2 : Hid (∀ w1, Below w.heap.size w w1 → Calls Try.prog 24 #[.slice A l.length c, .int .i64 at_] w1 fun e w' => e = .returned (.tuple #[S.zv (S.next l at_).1, .bool (S.next l at_).2]) ∧ Below w1.heap.size w1 w') := Lib.hid (fun w1 h => refnext_any at_ A c B l w1 (HR.out.below h hB) (Nat.le_trans hB h.size) (by omega))
    have N3 : Hid (∀ w1, Below w.heap.size w w1 → Calls Try.prog 25 #[.slice A l.length c, .int .i64 at_] w1 fun e w' => e = .returned (.tuple #[S.zv (S.prev l at_).1, .bool (S.prev l at_).2]) ∧ Below w1.heap.size w1 w') := Lib.hid (fun w1 h => prev_any at_ A c B l w1 (HR.out.below h hB) (Nat.le_trans hB h.size) (by omega))
    have N4 : Hid (∀ w1, Below w.heap.size w w1 → Calls Try.prog 26 #[.slice A l.length c, .int .i64 at_] w1 fun e w' => e = .returned (.tuple #[S.zv (S.prev l at_).1, .bool (S.prev l at_).2]) ∧ Below w1.heap.size w1 w') := Lib.hid (fun w1 h => refprev_any at_ A c B l w1 (HR.out.below h hB) (Nat.le_trans hB h.size) (by omega))
    generalize S.next l at_ = p at *
    generalize S.prev l at_ = q at *
    obtain ⟨⟨p1, p2⟩, p3⟩ := p
    obtain ⟨⟨q1, q2⟩, q3⟩ := q
    simp only [S.zv] at N1 N2 N3 N4
    clear HR
    go_enter Try.func9, Try.ntmps9
    go_wp2_with fail
    refine N1.out.mono ?_
    clear N1
    rintro e w1 ⟨rfl, b1⟩
    go_wp2_with fail
    have k1 := b1.alloc b1.size (.cells #[.int .i64 p1, .int .i64 p2] 34)
    have t1 := Two.new w1 (.int .i64 p1) (.int .i64 p2)
    generalize hu1 : w1.alloc (.cells #[.int .i64 p1, .int .i64 p2] 34) = u1 at *
    generalize hd1 : w1.heap.size = d1 at *
    clear hu1
    refine (N2.out _ k1).mono ?_
    clear N2
    rintro e w2 ⟨rfl, b2⟩
    have k2 := k1.trans (b2.mono k1.size)
    have t1' := t1.below b2
    clear t1 b2 k1 b1 hd1
    go_wp2_with fail
    have k3 := k2.alloc k2.size (.cells #[.int .i64 p1, .int .i64 p2] 34)
    have t2 := Two.new w2 (.int .i64 p1) (.int .i64 p2)
    have t1 := t1'.alloc (.cells #[.int .i64 p1, .int .i64 p2] 34)
    clear t1' k2
    generalize hu2 : w2.alloc (.cells #[.int .i64 p1, .int .i64 p2] 34) = u2 at *
    generalize hd2 : w2.heap.size = d2 at *
    clear hu2 hd2
    refine (N3.out _ k3).mono ?_
    clear N3
    rintro e w3 ⟨rfl, b3⟩
    have k4 := k3.trans (b3.mono k3.size)
    have t1' := t1.below b3
    have t2' := t2.below b3
    clear t1 t2 b3 k3
    go_wp2_with fail
    have k5 := k4.alloc k4.size (.cells #[.int .i64 q1, .int .i64 q2] 34)
    have t3 := Two.new w3 (.int .i64 q1) (.int .i64 q2)
    have t1 := t1'.alloc (.cells #[.int .i64 q1, .int .i64 q2] 34)
    have t2 := t2'.alloc (.cells #[.int .i64 q1, .int .i64 q2] 34)
    clear t1' t2' k4
    generalize hu3 : w3.alloc (.cells #[.int .i64 q1, .int .i64 q2] 34) = u3 at *
    generalize hd3 : w3.heap.size = d3 at *
    clear hu3 hd3
    refine (N4.out _ k5).mono ?_
    clear N4
    rintro e w4 ⟨rfl, b4⟩
    have k6 := k5.trans (b4.mono k5.size)
    have t1' := t1.below b4
    have t2' := t2.below b4
    have t3' := t3.below b4
    clear t1 t2 t3 b4 k5
    have k7 := k6.alloc k6.size (.cells #[.int .i64 q1, .int .i64 q2] 34)
    have t4 := Two.new w4 (.int .i64 q1) (.int .i64 q2)
    have t1 := t1'.alloc (.cells #[.int .i64 q1, .int .i64 q2] 34)
    have t2 := t2'.alloc (.cells #[.int .i64 q1, .int .i64 q2] 34)
    have t3 := t3'.alloc (.cells #[.int .i64 q1, .int .i64 q2] 34)
    have a1 := t1.cell0
    have a2 := t1.cell1
    have a3 := t2.cell0
    have a4 := t2.cell1
    have a5 := t3.cell0
    have a6 := t3.cell1
    clear t1' t2' t3' k6 t1 t2 t3 t4
    go_wp2_with fail
    refine (awake_any _).mono ?_
    rintro e w5 ⟨rfl, b5⟩
    go_wp2_with fail
    go_ret
    exact ⟨rfl, k7.trans (b5.mono k7.size)⟩
end Go.Proofs.Ythfpiomooomhoaa
