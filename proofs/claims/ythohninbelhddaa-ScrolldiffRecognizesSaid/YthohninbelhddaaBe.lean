/-
  The walks of layer 18: which of two candidates is preferred. By an AI agent.
-/
import Derived.Test.YthohninbelhddaaGa
namespace Go.Proofs.Ythohninbelhddaa
open Go.RowKit

theorem guard47 : Try.prog.eqGuardType Try.prog.depth 47 = false := by kernel_rfl
attribute [local go_sem] guard44 guard47

/-- A candidate. -/
def C.cd (g : Int) (c : V.Sc) : Value := .agg #[.int .i64 g, .int .i64 c.t, .int .i64 c.e, .int .i64 c.k]
/-- Whether it is preferred. -/
def C.btr (gc gd : Int) (c d : V.Sc) : Bool := decide (¬ (gc = gd ∧ c = d) ∧ (gc ≠ gd ∧ gd < gc ∨ gc = gd ∧ (V.mag c.k ≠ V.mag d.k ∧ V.mag c.k < V.mag d.k ∨ V.mag c.k = V.mag d.k ∧ (c.k ≠ d.k ∧ 0 < c.k ∨ c.k = d.k ∧ (c.t ≠ d.t ∧ c.t < d.t ∨ c.t = d.t ∧ d.e < c.e)))))
theorem C.btr_bt (g : V.Sc → Int) (c d : V.Sc) : C.btr (g c) (g d) c d = decide (V.bt g c d) := by
  unfold C.btr
  rw [decide_eq_decide, V.bt_code g c d]
  constructor
  · rintro ⟨h1, h2⟩
    exact ⟨fun e => h1 ⟨by rw [e], e⟩, h2⟩
  · rintro ⟨h1, h2⟩
    exact ⟨fun e => h1 e.2, h2⟩

theorem C.mag2 (k k' : Int) : (0 ≤ k ∧ 0 ≤ k' ∧ V.mag k = k ∧ V.mag k' = k') ∨ (0 ≤ k ∧ k' < 0 ∧ V.mag k = k ∧ V.mag k' = -k') ∨ (k < 0 ∧ 0 ≤ k' ∧ V.mag k = -k ∧ V.mag k' = k') ∨ (k < 0 ∧ k' < 0 ∧ V.mag k = -k ∧ V.mag k' = -k') := by
  unfold V.mag
  split <;> split <;> omega
theorem C.bne_f {x y : Int} (h : x = y) : (x != y) = false := by simp [h]
theorem C.bne_t {x y : Int} (h : ¬ x = y) : (x != y) = true := bne_iff_ne.2 h
theorem C.mag1 (k : Int) : (-k ≤ k ∧ V.mag k = k) ∨ (¬ -k ≤ k ∧ V.mag k = -k) := by
  unfold V.mag
  split <;> omega

set_option maxRecDepth 10000 in
set_option maxHeartbeats 16000000 in
theorem better_any (gc gd t e k t' e' k' : Int) (w : World) (hk1 : -1000000 ≤ k) (hk2 : k ≤ 1000000) (hk3 : -1000000 ≤ k') (hk4 : k' ≤ 1000000) :
    Calls Try.prog 26 #[.agg #[.int .i64 gc, .int .i64 t, .int .i64 e, .int .i64 k], .agg #[.int .i64 gd, .int .i64 t', .int .i64 e', .int .i64 k']] w fun e'' w' => e'' = .returned (.bool (C.btr gc gd ⟨t, e, k⟩ ⟨t', e', k'⟩)) ∧ Below w.heap.size w w' := by
  have hb0 : Below w.heap.size w ((w.alloc (.cells #[.int .i64 gc, .int .i64 t, .int .i64 e, .int .i64 k] 47)).alloc (.cells #[.int .i64 gd, .int .i64 t', .int .i64 e', .int .i64 k'] 47)) := ((Below.refl _ w).alloc (Nat.le_refl _) _).alloc (by simp) _
  have u1 : IntKind.i64.wrap (-k) = -k := by simp [IntKind.wrap, IntKind.bits, IntKind.signed]; omega
  have u2 : IntKind.i64.wrap (-k') = -k' := by simp [IntKind.wrap, IntKind.bits, IntKind.signed]; omega
  have hE : ∀ r : Bool, (r = true ↔ (¬ (gc = gd ∧ (⟨t, e, k⟩ : V.Sc) = ⟨t', e', k'⟩) ∧ (gc ≠ gd ∧ gd < gc ∨ gc = gd ∧ (V.mag k ≠ V.mag k' ∧ V.mag k < V.mag k' ∨ V.mag k = V.mag k' ∧ (k ≠ k' ∧ 0 < k ∨ k = k' ∧ (t ≠ t' ∧ t < t' ∨ t = t' ∧ e' < e)))))) → C.btr gc gd ⟨t, e, k⟩ ⟨t', e', k'⟩ = r := fun r h => by
    cases r
    · exact decide_eq_false (fun h' => by have := h.2 h'; cases this)
    · exact decide_eq_true (h.1 rfl)
  by_cases c1 : gc = gd
  · subst c1
    by_cases c2 : V.mag k = V.mag k'
    · by_cases c3 : k = k'
      · subst c3
        by_cases c4 : t = t'
        · subst c4
          by_cases c5 : e = e'
          · subst c5
            have HE := Lib.hid (hE false (by simp))
            clear hE c2
            rcases C.mag1 k with ⟨s1, m1⟩ | ⟨s1, m1⟩
            all_goals
              go_enter Try.func26, Try.ntmps26
              go_wp2
              go_ret
              exact ⟨ret_bool (by first | exact HE.out.symm | (rw [HE.out]; exact decide_eq_decide.2 (by omega))), hb0⟩
          · have HE := Lib.hid (hE (decide (e' < e)) (by simp [c5]))
            clear hE c2
            rcases C.mag1 k with ⟨s1, m1⟩ | ⟨s1, m1⟩
            all_goals
              go_enter Try.func26, Try.ntmps26
              go_wp2
              go_ret
              exact ⟨ret_bool (by first | exact HE.out.symm | (rw [HE.out]; exact decide_eq_decide.2 (by omega))), hb0⟩
        · have c4n : (t != t') = true := bne_iff_ne.2 c4
          have HE := Lib.hid (hE (decide (t < t')) (by simp [c4]))
          clear hE c2
          rcases C.mag1 k with ⟨s1, m1⟩ | ⟨s1, m1⟩
          all_goals
            go_enter Try.func26, Try.ntmps26
            go_wp2
            go_ret
            exact ⟨ret_bool (by first | exact HE.out.symm | (rw [HE.out]; exact decide_eq_decide.2 (by omega))), hb0⟩
      · have c3n : (k != k') = true := bne_iff_ne.2 c3
        have HE := Lib.hid (hE (decide (0 < k)) (by simp [c2, c3]))
        clear hE
        have c2 := Lib.hid c2
        rcases C.mag1 k with ⟨s1, m1⟩ | ⟨s1, m1⟩
        all_goals
          rcases C.mag1 k' with ⟨s2, m2⟩ | ⟨s2, m2⟩
          all_goals
            have c2 := c2.out
            rw [m1, m2] at c2
            first
            | (exfalso; omega)
            | have c2n := C.bne_f c2
              clear c2
              go_enter Try.func26, Try.ntmps26
              go_wp2
              go_ret
              exact ⟨ret_bool (by first | exact HE.out.symm | (rw [HE.out]; exact decide_eq_decide.2 (by omega))), hb0⟩
    · have c3 : ¬ k = k' := fun h => c2 (by rw [h])
      have HE := Lib.hid (hE (decide (V.mag k < V.mag k')) (by simp [c2, c3]))
      have c3n : (k != k') = true := bne_iff_ne.2 c3
      clear hE
      have c2 := Lib.hid c2
      rcases C.mag1 k with ⟨s1, m1⟩ | ⟨s1, m1⟩
      all_goals
        rcases C.mag1 k' with ⟨s2, m2⟩ | ⟨s2, m2⟩
        all_goals
          have c2 := c2.out
          rw [m1, m2] at c2
          have c2n := C.bne_t c2
          rw [m1, m2] at HE
          clear c2
          go_enter Try.func26, Try.ntmps26
          go_wp2
          go_ret
          exact ⟨ret_bool (by first | exact HE.out.symm | (rw [HE.out]; exact decide_eq_decide.2 (by omega))), hb0⟩
  · have c1n : (gc != gd) = true := bne_iff_ne.2 c1
    have HE := Lib.hid (hE (decide (gd < gc)) (by simp [c1]))
    clear hE
    go_enter Try.func26, Try.ntmps26
    go_wp2
    go_ret
    exact ⟨ret_bool (by first | exact HE.out.symm | (rw [HE.out]; exact decide_eq_decide.2 (by omega))), hb0⟩
end Go.Proofs.Ythohninbelhddaa
