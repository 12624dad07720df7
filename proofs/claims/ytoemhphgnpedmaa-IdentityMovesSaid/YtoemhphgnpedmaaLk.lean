/-
  The walks of layer 30: proper, area. By an AI agent.
-/
import Derived.Test.YtoemhphgnpedmaaPlain
import Derived.Test.YtoemhphgnpedmaaSlv
namespace Go.Proofs.Ytoemhphgnpedmaa
open Go.RowKit

/-- A region's value. -/
def I.Rg.cells (r : I.Rg) : List Value := [.int .i64 r.kind, .int .i64 r.id, .int .i64 r.parent, .int .i64 r.top, .int .i64 r.left, .int .i64 r.bottom, .int .i64 r.right, .string r.label]
def I.Rg.val (r : I.Rg) : Value := .agg r.cells.toArray
set_option maxRecDepth 100000 in
set_option maxHeartbeats 4000000 in
theorem proper_any (r : I.Rg) (w : World) : Calls Try.prog 31 #[r.val] w fun e w' => e = .returned (.bool (I.proper r)) ∧ Below w.heap.size w w' := by
  obtain ⟨kd, id, pa, t, l, b, rt, lb⟩ := r
  have B0 := Lib.hid ((Below.refl w.heap.size w).alloc (Nat.le_refl _) (.cells #[.int .i64 kd, .int .i64 id, .int .i64 pa, .int .i64 t, .int .i64 l, .int .i64 b, .int .i64 rt, .string lb] 27))
  simp only [I.Rg.val, I.Rg.cells, I.proper]
  cases h0 : decide (0 ≤ t)
  · go_enter Try.func31, Try.ntmps31
    go_wp2_with fail
    go_ret
    exact ⟨ret_bool (by simp), B0.out⟩
  · skip
    cases h1 : decide (t < b)
    · go_enter Try.func31, Try.ntmps31
      go_wp2_with fail
      go_ret
      exact ⟨ret_bool (by simp), B0.out⟩
    · skip
      cases h2 : decide (b ≤ 60)
      · go_enter Try.func31, Try.ntmps31
        go_wp2_with fail
        go_ret
        exact ⟨ret_bool (by simp), B0.out⟩
      · skip
        cases h3 : decide (0 ≤ l)
        · go_enter Try.func31, Try.ntmps31
          go_wp2_with fail
          go_ret
          exact ⟨ret_bool (by simp), B0.out⟩
        · skip
          cases h4 : decide (l < rt)
          · go_enter Try.func31, Try.ntmps31
            go_wp2_with fail
            go_ret
            exact ⟨ret_bool (by simp), B0.out⟩
          · skip
            cases h5 : decide (rt ≤ 132)
            · go_enter Try.func31, Try.ntmps31
              go_wp2_with fail
              go_ret
              exact ⟨ret_bool (by simp), B0.out⟩
            · go_enter Try.func31, Try.ntmps31
              go_wp2_with fail
              go_ret
              exact ⟨ret_bool (by simp), B0.out⟩
set_option maxRecDepth 100000 in
set_option maxHeartbeats 4000000 in
theorem refproper_any (r : I.Rg) (w : World) : Calls Try.prog 14 #[r.val] w fun e w' => e = .returned (.bool (I.proper r)) ∧ Below w.heap.size w w' := by
  obtain ⟨kd, id, pa, t, l, b, rt, lb⟩ := r
  have B0 := Lib.hid ((Below.refl w.heap.size w).alloc (Nat.le_refl _) (.cells #[.int .i64 kd, .int .i64 id, .int .i64 pa, .int .i64 t, .int .i64 l, .int .i64 b, .int .i64 rt, .string lb] 27))
  simp only [I.Rg.val, I.Rg.cells, I.proper]
  cases h0 : decide (0 ≤ t)
  · go_enter Try.func14, Try.ntmps14
    go_wp2_with fail
    go_ret
    exact ⟨ret_bool (by simp), B0.out⟩
  · skip
    cases h1 : decide (t < b)
    · go_enter Try.func14, Try.ntmps14
      go_wp2_with fail
      go_ret
      exact ⟨ret_bool (by simp), B0.out⟩
    · skip
      cases h2 : decide (b ≤ 60)
      · go_enter Try.func14, Try.ntmps14
        go_wp2_with fail
        go_ret
        exact ⟨ret_bool (by simp), B0.out⟩
      · skip
        cases h3 : decide (0 ≤ l)
        · go_enter Try.func14, Try.ntmps14
          go_wp2_with fail
          go_ret
          exact ⟨ret_bool (by simp), B0.out⟩
        · skip
          cases h4 : decide (l < rt)
          · go_enter Try.func14, Try.ntmps14
            go_wp2_with fail
            go_ret
            exact ⟨ret_bool (by simp), B0.out⟩
          · skip
            cases h5 : decide (rt ≤ 132)
            · go_enter Try.func14, Try.ntmps14
              go_wp2_with fail
              go_ret
              exact ⟨ret_bool (by simp), B0.out⟩
            · go_enter Try.func14, Try.ntmps14
              go_wp2_with fail
              go_ret
              exact ⟨ret_bool (by simp), B0.out⟩
set_option maxHeartbeats 2000000 in
theorem area_any (h v : Int) (w : World) (hh : h ≤ 10000) (hv : v ≤ 10000) : Calls Try.prog 32 #[.int .i64 h, .int .i64 v] w fun e w' => e = .returned (.int .i64 (I.area h v)) ∧ w = w' := by
  have u : ∀ a b : Int, 0 ≤ a → a ≤ 10000 → 0 ≤ b → b ≤ 10000 → IntKind.i64.wrap (a * b) = a * b := fun a b h1 h2 h3 h4 => by
    have h5 := Int.mul_nonneg h1 h3
    have h6 := Int.mul_le_mul h2 h4 h3 (by omega)
    simp [IntKind.wrap, IntKind.bits, IntKind.signed]; omega
  have e3 : IntKind.i64.wrap 0 = 0 := rfl
  obtain ⟨z, hz⟩ : ∃ z, I.area h v = z := ⟨_, rfl⟩
  rw [hz]
  unfold I.area at hz
  by_cases c1 : 0 < h
  · have e1 : max 0 h = h := by omega
    by_cases c2 : 0 < v
    · have e2 : max 0 v = v := by omega
      have e5 := Int.mul_nonneg (show 0 ≤ h by omega) (show 0 ≤ v by omega)
      have e6 := Int.mul_le_mul hh hv (by omega) (show (0 : Int) ≤ 10000 by omega)
      rw [e1, e2] at hz
      rw [hz] at e5 e6
      clear u e1 e2 e3
      go_enter Try.func32, Try.ntmps32
      go_wp2_with fail
      go_ret
      exact ⟨ret_int (by first | rfl | (rw [hz]; unfold wrap64; omega) | (unfold wrap64; omega)), rfl⟩
    · have e2 : max 0 v = 0 := by omega
      rw [e1, e2, Int.mul_zero] at hz
      clear u e1 e2
      go_enter Try.func32, Try.ntmps32
      go_wp2_with fail
      go_ret
      exact ⟨ret_int (by subst hz; simp [wrap64]), rfl⟩
  · have e1 : max 0 h = 0 := by omega
    rw [e1, Int.zero_mul] at hz
    by_cases c2 : 0 < v
    · clear u e1
      go_enter Try.func32, Try.ntmps32
      go_wp2_with fail
      go_ret
      exact ⟨ret_int (by subst hz; simp [wrap64]), rfl⟩
    · clear u e1
      go_enter Try.func32, Try.ntmps32
      go_wp2_with fail
      go_ret
      exact ⟨ret_int (by subst hz; simp [wrap64]), rfl⟩
set_option maxHeartbeats 2000000 in
theorem refarea_any (t l b r : Int) (w : World) (ht : 0 ≤ t ∧ t ≤ 10000) (hl : 0 ≤ l ∧ l ≤ 10000) (hb : 0 ≤ b ∧ b ≤ 10000) (hr : 0 ≤ r ∧ r ≤ 10000) : Calls Try.prog 25 #[.int .i64 t, .int .i64 l, .int .i64 b, .int .i64 r] w fun e w' => e = .returned (.int .i64 (I.area (b - t) (r - l))) ∧ w = w' := by
  obtain ⟨z, hz⟩ : ∃ z, I.area (b - t) (r - l) = z := ⟨_, rfl⟩
  rw [hz]
  unfold I.area at hz
  by_cases c1 : b ≤ t
  · rw [show max 0 (b - t) = 0 by omega, Int.zero_mul] at hz
    have t1 : decide (b ≤ t) = true := decide_eq_true c1
    go_enter Try.func25, Try.ntmps25
    go_wp2_with fail
    go_ret
    exact ⟨ret_int (by first | rfl | omega), rfl⟩
  · have t1 : decide (b ≤ t) = false := decide_eq_false c1
    by_cases c2 : r ≤ l
    · rw [show max 0 (r - l) = 0 by omega, Int.mul_zero] at hz
      have t2 : decide (r ≤ l) = true := decide_eq_true c2
      go_enter Try.func25, Try.ntmps25
      go_wp2_with fail
      go_ret
      exact ⟨ret_int (by first | rfl | omega), rfl⟩
    · have t2 : decide (r ≤ l) = false := decide_eq_false c2
      rw [show max 0 (b - t) = b - t by omega, show max 0 (r - l) = r - l by omega] at hz
      have e5 := Int.mul_nonneg (show 0 ≤ b - t by omega) (show 0 ≤ r - l by omega)
      have e6 := Int.mul_le_mul (show b - t ≤ 10000 by omega) (show r - l ≤ 10000 by omega) (by omega) (show (0 : Int) ≤ 10000 by omega)
      have u1 : IntKind.i64.wrap (b - t) = b - t := by simp [IntKind.wrap, IntKind.bits, IntKind.signed]; omega
      have u2 : IntKind.i64.wrap (r - l) = r - l := by simp [IntKind.wrap, IntKind.bits, IntKind.signed]; omega
      have u3 : IntKind.i64.wrap ((b - t) * (r - l)) = z := by rw [hz] at e5 e6 ⊢; simp [IntKind.wrap, IntKind.bits, IntKind.signed]; omega
      clear hz e5 e6
      go_enter Try.func25, Try.ntmps25
      go_wp2_with fail
      go_ret
      exact ⟨ret_int (by first | rfl | omega), rfl⟩
end Go.Proofs.Ytoemhphgnpedmaa
