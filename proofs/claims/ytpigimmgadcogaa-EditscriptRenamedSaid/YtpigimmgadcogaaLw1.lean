/-
  The statements of layer 16: EditscriptMetric. By an AI agent.
-/
import Derived.Test.YtpigimmgadcogaaAw
namespace Go.Proofs.Ytpigimmgadcogaa
open Go.RowKit

theorem E.small3 {x y z : Nat} (h : E.small [x, y, z] = true) : x ≤ 30 ∧ y ≤ 30 ∧ z ≤ 30 := by simpa [E.small] using h
theorem E.small2 {x y : Nat} (h : E.small [x, y] = true) : x ≤ 30 ∧ y ≤ 30 := by simpa [E.small] using h
theorem E.small1 {x : Nat} (h : E.small [x] = true) : x ≤ 30 := by simpa [E.small] using h

/-- 'small' of three slices, in a block just laid. -/
theorem small3_any (A1 A2 A3 : Option Addr) (c1 c2 c3 n1 n2 n3 : Nat) (w : World) (h1 : n1 ≤ maxLen) (h2 : n2 ≤ maxLen) (h3 : n3 ≤ maxLen) :
    Calls Try.prog 11 #[.slice (some ⟨w.heap.size, 0, none⟩) 3 3] (w.alloc (.cells #[.slice A1 n1 c1, .slice A2 n2 c2, .slice A3 n3 c3] 22)) fun e w' => e = .returned (.bool (E.small [n1, n2, n3])) ∧ w.alloc (.cells #[.slice A1 n1 c1, .slice A2 n2 c2, .slice A3 n3 c3] 22) = w' := by
  have := small_any (some ⟨w.heap.size, 0, none⟩) 3 _ [(A1, n1, c1), (A2, n2, c2), (A3, n3, c3)] _ (reads_new w [.slice A1 n1 c1, .slice A2 n2 c2, .slice A3 n3 c3] 22) (by simp) (by simp; exact ⟨h1, h2, h3⟩)
  exact this
theorem small2_any (A1 A2 : Option Addr) (c1 c2 n1 n2 : Nat) (w : World) (h1 : n1 ≤ maxLen) (h2 : n2 ≤ maxLen) :
    Calls Try.prog 11 #[.slice (some ⟨w.heap.size, 0, none⟩) 2 2] (w.alloc (.cells #[.slice A1 n1 c1, .slice A2 n2 c2] 22)) fun e w' => e = .returned (.bool (E.small [n1, n2])) ∧ w.alloc (.cells #[.slice A1 n1 c1, .slice A2 n2 c2] 22) = w' := by
  have := small_any (some ⟨w.heap.size, 0, none⟩) 2 _ [(A1, n1, c1), (A2, n2, c2)] _ (reads_new w [.slice A1 n1 c1, .slice A2 n2 c2] 22) (by simp) (by simp; exact ⟨h1, h2⟩)
  exact this
theorem small1_any (A1 : Option Addr) (c1 n1 : Nat) (w : World) (h1 : n1 ≤ maxLen) :
    Calls Try.prog 11 #[.slice (some ⟨w.heap.size, 0, none⟩) 1 1] (w.alloc (.cells #[.slice A1 n1 c1] 22)) fun e w' => e = .returned (.bool (E.small [n1])) ∧ w.alloc (.cells #[.slice A1 n1 c1] 22) = w' := by
  have := small_any (some ⟨w.heap.size, 0, none⟩) 1 _ [(A1, n1, c1)] _ (reads_new w [.slice A1 n1 c1] 22) (by simp) (by simp; exact h1)
  exact this
theorem E.dist_small {a b : List Int} (ha : a.length ≤ 60) (hb : b.length ≤ 60) : E.dist a b ≤ 120 := by unfold E.dist; omega

set_option maxHeartbeats 2000000 in
theorem metric_any (A1 : Option Addr) (c1 : Nat) (a : List Int) (A2 : Option Addr) (c2 : Nat) (b : List Int) (A3 : Option Addr) (c3 : Nat) (c : List Int) (w : World)
    (ha : Reads w w.heap.size 1 A1 a.length (E.ns a)) (_ : ∀ z ∈ a, (Lit.int .i64 z).wf = true) (ya : a.length ≤ 17592186043904)
    (hb : Reads w w.heap.size 1 A2 b.length (E.ns b)) (_ : ∀ z ∈ b, (Lit.int .i64 z).wf = true) (yb : b.length ≤ 17592186043904)
    (hc : Reads w w.heap.size 1 A3 c.length (E.ns c)) (_ : ∀ z ∈ c, (Lit.int .i64 z).wf = true) (yc : c.length ≤ 17592186043904) :
    Calls Try.prog 4 #[.slice A1 a.length c1, .slice A2 b.length c2, .slice A3 c.length c3] w fun e w' => e = .returned (.bool true) ∧ Below w.heap.size w w' := by
  have SM := Lib.hid (small3_any A1 A2 A3 c1 c2 c3 a.length b.length c.length w (by simp only [maxLen]; omega) (by simp only [maxLen]; omega) (by simp only [maxLen]; omega))
  have hb0 : Below w.heap.size w (w.alloc (.cells #[.slice A1 a.length c1, .slice A2 b.length c2, .slice A3 c.length c3] 22)) := (Below.refl _ _).alloc (Nat.le_refl _) _
  cases hs : E.small [a.length, b.length, c.length]
  · rw [hs] at SM
    clear hs ha hb hc
    go_enter Try.func4, Try.ntmps4
    go_wp2_with fail
    refine SM.out.mono ?_
    rintro e w1 ⟨rfl, rfl⟩
    go_wp2_with fail
    refine (awake_any _).mono ?_
    rintro e w2 ⟨rfl, b2⟩
    go_wp2_with fail
    go_ret
    exact ⟨rfl, hb0.trans (b2.mono hb0.size)⟩
  · obtain ⟨n1, n2, n3⟩ := E.small3 hs
    rw [hs] at SM
    have D : Hid (∀ (A A' : Option Addr) (k k' : Nat) (x y : List Int) (w' : World), Below w.heap.size w w' → x.length ≤ 30 → y.length ≤ 30 → Reads w w.heap.size 1 A x.length (E.ns x) → Reads w w.heap.size 1 A' y.length (E.ns y) → Calls Try.prog 13 #[.slice A x.length k, .slice A' y.length k'] w' fun e w'' => e = .returned (.int .i64 (E.dist x y)) ∧ Below w'.heap.size w' w'') :=
      Lib.hid (fun A A' k k' x y w' hbl hx hy hrx hry => dist_any A A' k k' w.heap.size x y w' (hrx.below hbl (Nat.le_refl _)) (hry.below hbl (Nat.le_refl _)) hbl.size (by omega) (by omega))
    have hz : decide (a = b) = ((E.dist a b : Int) == 0) := by
      rw [Bool.eq_iff_iff]; simp [← E.dist_zero a b]
    have SI : Hid (∀ w', Below w.heap.size w w' → Calls Try.prog 19 #[.slice A1 a.length c1, .slice A2 b.length c2] w' fun e w'' => e = .returned (.bool ((E.dist a b : Int) == 0)) ∧ ∃ n, w'' = w'.drewN n) := Lib.hid (fun w' hbl => by
      have := sameints_any A1 A2 c1 c2 w.heap.size a b w' (ha.below hbl (Nat.le_refl _)) (hb.below hbl (Nat.le_refl _)) (by omega) (by omega)
      rw [hz] at this; exact this)
    have H1 := Lib.hid ha
    have H2 := Lib.hid hb
    have H3 := Lib.hid hc
    have HDC := Lib.hid (E.dist_comm b a)
    have d1 := E.dist_small (a := a) (b := b) (by omega) (by omega)
    have d2 := E.dist_small (a := b) (b := c) (by omega) (by omega)
    have htri := E.dist_tri a b c
    have u1 : IntKind.i64.wrap ((E.dist a b : Int) + (E.dist b c : Int)) = (E.dist a b : Int) + (E.dist b c : Int) := by simp [IntKind.wrap, IntKind.bits, IntKind.signed]; omega
    have u2 : decide ((E.dist a c : Int) ≤ (E.dist a b : Int) + (E.dist b c : Int)) = true := decide_eq_true (by omega)
    clear hs ha hb hc hz d1 d2 htri
    go_enter Try.func4, Try.ntmps4
    go_wp2_with fail
    refine SM.out.mono ?_
    rintro e w1 ⟨rfl, rfl⟩
    generalize w.alloc _ = w1 at *
    go_wp2_with fail
    refine (D.out _ _ _ _ a b _ hb0 n1 n2 H1.out H2.out).mono ?_
    rintro e w2 ⟨rfl, b2⟩
    have hb2 := hb0.trans (b2.mono hb0.size)
    go_wp2_with fail
    refine (D.out _ _ _ _ b c _ hb2 n2 n3 H2.out H3.out).mono ?_
    rintro e w3 ⟨rfl, b3⟩
    have hb3 := hb2.trans (b3.mono hb2.size)
    go_wp2_with fail
    refine (D.out _ _ _ _ a c _ hb3 n1 n3 H1.out H3.out).mono ?_
    rintro e w4 ⟨rfl, b4⟩
    have hb4 := hb3.trans (b4.mono hb3.size)
    go_wp2_with fail
    refine (D.out _ _ _ _ b a _ hb4 n2 n1 H2.out H1.out).mono ?_
    rintro e w5 ⟨rfl, b5⟩
    have hb5 := hb4.trans (b5.mono hb4.size)
    rw [HDC.out]
    go_wp2_with fail
    refine (SI.out _ hb5).mono ?_
    rintro e w6 ⟨rfl, n, rfl⟩
    have hb6 := below_drewN hb5 n
    generalize w5.drewN n = w6 at *
    generalize hx : (E.dist a b : Int) = x at *
    generalize hy : (E.dist b c : Int) = y at *
    generalize hz : (E.dist a c : Int) = z at *
    clear hx hy hz D SI HDC
    go_wp2_with fail
    refine (awake_any _).mono ?_
    rintro e w7 ⟨rfl, b7⟩
    go_wp2_with fail
    go_ret
    exact ⟨rfl, hb6.trans (b7.mono hb6.size)⟩
end Go.Proofs.Ytpigimmgadcogaa
