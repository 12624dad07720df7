/-
  The statements of layer 16: EditscriptScript. By an AI agent.
-/
import Derived.Test.YtpigimmgadcogaaRsc
namespace Go.Proofs.Ytpigimmgadcogaa
open Go.RowKit

set_option maxRecDepth 10000 in
set_option maxHeartbeats 8000000 in
theorem scriptlaw_any (A1 : Option Addr) (c1 : Nat) (a : List Int) (A2 : Option Addr) (c2 : Nat) (b : List Int) (w : World)
    (ha : Reads w w.heap.size 1 A1 a.length (E.ns a)) (_ : ∀ z ∈ a, (Lit.int .i64 z).wf = true) (ya : a.length ≤ 17592186043904)
    (hb : Reads w w.heap.size 1 A2 b.length (E.ns b)) (_ : ∀ z ∈ b, (Lit.int .i64 z).wf = true) (yb : b.length ≤ 17592186043904) :
    Calls Try.prog 3 #[.slice A1 a.length c1, .slice A2 b.length c2] w fun e w' => e = .returned (.bool true) ∧ Below w.heap.size w w' := by
  have SM := Lib.hid (small2_any A1 A2 c1 c2 a.length b.length w (by simp only [maxLen]; omega) (by simp only [maxLen]; omega))
  have hb0 : Below w.heap.size w (w.alloc (.cells #[.slice A1 a.length c1, .slice A2 b.length c2] 22)) := (Below.refl _ _).alloc (Nat.le_refl _) _
  cases hs : E.small [a.length, b.length]
  · rw [hs] at SM
    clear hs ha hb
    go_enter Try.func3, Try.ntmps3
    go_wp2_with fail
    refine SM.out.mono ?_
    rintro e w1 ⟨rfl, rfl⟩
    go_wp2_with fail
    refine (awake_any _).mono ?_
    rintro e w2 ⟨rfl, b2⟩
    go_wp2_with fail
    go_ret
    exact ⟨rfl, hb0.trans (b2.mono hb0.size)⟩
  · obtain ⟨n1, n2⟩ := E.small2 hs
    rw [hs] at SM
    have H1 := Lib.hid (fun (w' : World) (hbl : Below w.heap.size w w') => ha.below hbl (Nat.le_refl _))
    have H2 := Lib.hid (fun (w' : World) (hbl : Below w.heap.size w w') => hb.below hbl (Nat.le_refl _))
    have hss := E.script_small (a := a) (b := b) (by omega) (by omega)
    have HCL : Hid ((E.common a b).length ≤ 30) := Lib.hid (by rw [(E.common_spec a b).2.2]; have := E.lcs_le_left a b; omega)
    clear hs ha hb
    go_enter Try.func3, Try.ntmps3
    go_wp2_with fail
    refine SM.out.mono ?_
    rintro e w1 ⟨rfl, rfl⟩
    generalize w.alloc _ = w1 at *
    go_wp2_with fail
    refine (dist_any A1 A2 c1 c2 w.heap.size a b w1 (H1.out _ hb0) (H2.out _ hb0) hb0.size (by omega) (by omega)).mono ?_
    rintro e w2 ⟨rfl, b2⟩
    have hb2 := hb0.trans (b2.mono hb0.size)
    go_wp2_with fail
    refine (refdist_any A1 A2 c1 c2 w.heap.size a b w2 (H1.out _ hb2) (H2.out _ hb2) hb2.size (by omega) (by omega)).mono ?_
    rintro e w3 ⟨rfl, b3⟩
    have hb3 := hb2.trans (b3.mono hb2.size)
    generalize (E.dist a b : Int) = dd at *
    go_wp2_with fail
    refine (script_any A1 A2 c1 c2 w.heap.size a b w3 (H1.out _ hb3) (H2.out _ hb3) hb3.size (by omega) (by omega)).mono ?_
    rintro e w4 ⟨A4, c4, es, rfl, r4, e4, b4⟩
    have hb4 := hb3.trans (b4.mono hb3.size)
    have hel : Hid (es.length ≤ 2000) := Lib.hid (by have := congrArg List.length e4; simp at this; omega)
    have r4 := Lib.hid r4
    have e4 := Lib.hid e4
    go_wp2_with fail
    refine (plain_out A4 c4 w4.heap.size es w4 r4.out (Nat.le_refl _) (by have := hel.out; omega)).mono ?_
    rintro e w5 ⟨A5, c5, es5, rfl, r5, e5, b5⟩
    have hb5 := hb4.trans (b5.mono hb4.size)
    have hel5 : Hid (es5.length ≤ 2000) := Lib.hid (by have := congrArg List.length e5; simp at this; have := hel.out; omega)
    have r5 := Lib.hid r5
    have e5 := Lib.hid e5
    go_wp2_with fail
    refine (refscript_any A1 A2 c1 c2 w.heap.size a b w5 (H1.out _ hb5) (H2.out _ hb5) hb5.size (by omega) (by omega)).mono ?_
    rintro e w6 ⟨A6, c6, es6, rfl, r6, e6, b6⟩
    have hb6 := hb5.trans (b6.mono hb5.size)
    have SA := same_any A5 A6 c5 c6 w6.heap.size es5 es6 w6 ((r5.out.below b6 (Nat.le_refl _)).more b6.size) r6 (by have := hel5.out; omega) (by have := congrArg List.length e6; simp at this; omega)
    rw [decide_eq_true (by rw [e5.out, e4.out, e6])] at SA
    have SA := Lib.hid SA
    clear r6 e6
    go_wp2_with fail
    refine SA.out.mono ?_
    rintro e w7 ⟨rfl, n7, rfl⟩
    have hb7 := below_drewN hb6 n7
    generalize w6.drewN n7 = w7 at *
    go_wp2_with fail
    refine (common_any A1 A2 c1 c2 w.heap.size a b w7 (H1.out _ hb7) (H2.out _ hb7) hb7.size (by omega) (by omega)).mono ?_
    rintro e w8 ⟨A8, c8, rfl, r8, b8⟩
    have hb8 := hb7.trans (b8.mono hb7.size)
    have r8 := Lib.hid r8
    have RC := Lib.hid (refcommon_any A1 A2 c1 c2 w.heap.size a b w8 (H1.out _ hb8) (H2.out _ hb8) hb8.size (by omega) (by omega))
    generalize E.common a b = cm at *
    go_wp2_with fail
    refine RC.out.mono ?_
    rintro e w9 ⟨A9, c9, rfl, r9, b9⟩
    have hb9 := hb8.trans (b9.mono hb8.size)
    have SI := sameints_any A8 A9 c8 c9 w9.heap.size cm cm w9 ((r8.out.below b9 (Nat.le_refl _)).more b9.size) r9 (by have := HCL.out; omega) (by have := HCL.out; omega)
    rw [decide_eq_true rfl] at SI
    have SI := Lib.hid SI
    clear r9
    go_wp2_with fail
    refine SI.out.mono ?_
    rintro e w10 ⟨rfl, n10, rfl⟩
    have hb10 := below_drewN hb9 n10
    generalize w9.drewN n10 = w10 at *
    go_wp2_with fail
    refine (awake_any _).mono ?_
    rintro e w11 ⟨rfl, b11⟩
    go_wp2_with fail
    go_ret
    exact ⟨rfl, hb10.trans (b11.mono hb10.size)⟩
end Go.Proofs.Ytpigimmgadcogaa
