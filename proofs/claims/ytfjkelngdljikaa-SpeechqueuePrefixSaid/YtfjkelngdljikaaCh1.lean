/-
  The walks of layer 44: proper, all, none, the reference's Utterance, Utterances, New. By an AI agent.
-/
import Derived.Test.YtfjkelngdljikaaUm
namespace Go.Proofs.Ytfjkelngdljikaa
set_option linter.unusedVariables false
open Go.RowKit

/-- The block that an utterance by value is boxed into. -/
theorem below_box (w : World) (o : Obj) : Below w.heap.size w (w.alloc o) := (Below.refl _ _).alloc (Nat.le_refl _) _
section
variable (m : Q.Um) (w : World) (hw : m.u.words.length ≤ maxLen) (hc : m.u.chs.length ≤ maxLen)
include hw hc
theorem proper_any : Calls Try.prog 39 #[.agg m.cells.toArray] w fun e w' => e = .returned (.int .i64 (Q.pr m.u)) ∧ Below w.heap.size w w' := by
  obtain ⟨⟨ws, cs, cl, af, up⟩, aw, cw, ac, cc⟩ := m
  simp only [Q.Um.cells]
  unfold maxLen at hw hc
  have B0 := Lib.hid (below_box w (.cells #[.slice aw ws.length cw, .slice ac cs.length cc, .int .i64 cl, .int .i64 af, .int .i64 up] 25))
  by_cases h0 : ws.length = 0
  · have H : Hid (Q.pr ⟨ws, cs, cl, af, up⟩ = 1) := Lib.hid (by unfold Q.pr; rw [if_pos h0])
    have hb : ((ws.length : Int) == 0) = true := by rw [h0]; rfl
    clear h0
    go_enter Try.func39, Try.ntmps39
    go_wp2_with fail
    go_ret
    exact ⟨ret_int H.out.symm, B0.out⟩
  · have hb : ((ws.length : Int) == 0) = false := by rw [beq_eq_false_iff_ne]; omega
    by_cases h1 : af < 0
    · have H : Hid (Q.pr ⟨ws, cs, cl, af, up⟩ = 2) := Lib.hid (by unfold Q.pr; rw [if_neg h0, if_pos (.inl h1)])
      clear h0
      go_enter Try.func39, Try.ntmps39
      go_wp2_with fail
      go_ret
      exact ⟨ret_int H.out.symm, B0.out⟩
    · by_cases h2 : 1099511627776 < af
      · have H : Hid (Q.pr ⟨ws, cs, cl, af, up⟩ = 2) := Lib.hid (by unfold Q.pr; rw [if_neg h0, if_pos (.inr h2)])
        clear h0
        go_enter Try.func39, Try.ntmps39
        go_wp2_with fail
        go_ret
        exact ⟨ret_int H.out.symm, B0.out⟩
      · have H : Hid (Q.pr ⟨ws, cs, cl, af, up⟩ = 0) := Lib.hid (by unfold Q.pr; rw [if_neg h0, if_neg (by simp only; omega)])
        clear h0
        go_enter Try.func39, Try.ntmps39
        go_wp2_with fail
        go_ret
        exact ⟨ret_int H.out.symm, B0.out⟩
theorem refut_any : Calls Try.prog 44 #[.agg m.cells.toArray] w fun e w' => e = .returned (.int .i64 (Q.pr m.u)) ∧ Below w.heap.size w w' := by
  obtain ⟨⟨ws, cs, cl, af, up⟩, aw, cw, ac, cc⟩ := m
  simp only [Q.Um.cells]
  unfold maxLen at hw hc
  have B0 := Lib.hid (below_box w (.cells #[.slice aw ws.length cw, .slice ac cs.length cc, .int .i64 cl, .int .i64 af, .int .i64 up] 25))
  by_cases h0 : ws.length = 0
  · have H : Hid (Q.pr ⟨ws, cs, cl, af, up⟩ = 1) := Lib.hid (by unfold Q.pr; rw [if_pos h0])
    have hb : ((ws.length : Int) == 0) = true := by rw [h0]; rfl
    clear h0
    go_enter Try.func44, Try.ntmps44
    go_wp2_with fail
    go_ret
    exact ⟨ret_int H.out.symm, B0.out⟩
  · have hb : ((ws.length : Int) == 0) = false := by rw [beq_eq_false_iff_ne]; omega
    by_cases h1 : af < 0
    · have H : Hid (Q.pr ⟨ws, cs, cl, af, up⟩ = 2) := Lib.hid (by unfold Q.pr; rw [if_neg h0, if_pos (.inl h1)])
      clear h0
      go_enter Try.func44, Try.ntmps44
      go_wp2_with fail
      go_ret
      exact ⟨ret_int H.out.symm, B0.out⟩
    · by_cases h2 : 1099511627776 < af
      · have H : Hid (Q.pr ⟨ws, cs, cl, af, up⟩ = 2) := Lib.hid (by unfold Q.pr; rw [if_neg h0, if_pos (.inr h2)])
        clear h0
        go_enter Try.func44, Try.ntmps44
        go_wp2_with fail
        go_ret
        exact ⟨ret_int H.out.symm, B0.out⟩
      · have H : Hid (Q.pr ⟨ws, cs, cl, af, up⟩ = 0) := Lib.hid (by unfold Q.pr; rw [if_neg h0, if_neg (by simp only; omega)])
        clear h0
        go_enter Try.func44, Try.ntmps44
        go_wp2_with fail
        go_ret
        exact ⟨ret_int H.out.symm, B0.out⟩
theorem none_any : Calls Try.prog 40 #[.agg m.cells.toArray] w fun e w' => e = .returned (.bool (decide (m.u = Q.zero))) ∧ Below w.heap.size w w' := by
  obtain ⟨⟨ws, cs, cl, af, up⟩, aw, cw, ac, cc⟩ := m
  simp only [Q.Um.cells]
  unfold maxLen at hw hc
  have B0 := Lib.hid (below_box w (.cells #[.slice aw ws.length cw, .slice ac cs.length cc, .int .i64 cl, .int .i64 af, .int .i64 up] 25))
  have NO : (ws.length ≠ 0 ∨ cs.length ≠ 0 ∨ cl ≠ 0 ∨ af ≠ 0 ∨ up ≠ 0) → decide ((⟨ws, cs, cl, af, up⟩ : Q.Ut) = Q.zero) = false := fun h => decide_eq_false (fun e => by
    unfold Q.zero at e
    injection e with e1 e2 e3 e4 e5
    subst e1 e2 e3 e4 e5
    simp at h)
  replace NO := Lib.hid NO
  by_cases h0 : ws.length = 0
  · have hb0 : ((ws.length : Int) == 0) = true := by rw [h0]; rfl
    by_cases h1 : cs.length = 0
    · have hb1 : ((cs.length : Int) == 0) = true := by rw [h1]; rfl
      by_cases h2 : cl = 0
      · by_cases h3 : af = 0
        · by_cases h4 : up = 0
          · have H : Hid (decide ((⟨ws, cs, cl, af, up⟩ : Q.Ut) = Q.zero) = true) := Lib.hid (decide_eq_true (by
              rw [List.eq_nil_of_length_eq_zero h0, List.eq_nil_of_length_eq_zero h1, h2, h3, h4]; rfl))
            subst h2 h3 h4
            clear h0 h1 NO
            go_enter Try.func40, Try.ntmps40
            go_wp2_with fail
            go_ret
            exact ⟨ret_bool H.out.symm, B0.out⟩
          · have H := Lib.hid (NO.out (by simp [h4]))
            have hb4 : (up == 0) = false := beq_eq_false_iff_ne.2 h4
            subst h2 h3
            clear h0 h1 h4 NO
            go_enter Try.func40, Try.ntmps40
            go_wp2_with fail
            go_ret
            exact ⟨ret_bool H.out.symm, B0.out⟩
        · have H := Lib.hid (NO.out (by simp [h3]))
          have hb3 : (af == 0) = false := beq_eq_false_iff_ne.2 h3
          subst h2
          clear h0 h1 h3 NO
          go_enter Try.func40, Try.ntmps40
          go_wp2_with fail
          go_ret
          exact ⟨ret_bool H.out.symm, B0.out⟩
      · have H := Lib.hid (NO.out (by simp [h2]))
        have hb2 : (cl == 0) = false := beq_eq_false_iff_ne.2 h2
        clear h0 h1 h2 NO
        go_enter Try.func40, Try.ntmps40
        go_wp2_with fail
        go_ret
        exact ⟨ret_bool H.out.symm, B0.out⟩
    · have H := Lib.hid (NO.out (.inr (.inl h1)))
      have hb1 : ((cs.length : Int) == 0) = false := by rw [beq_eq_false_iff_ne]; omega
      clear h0 h1 NO
      go_enter Try.func40, Try.ntmps40
      go_wp2_with fail
      go_ret
      exact ⟨ret_bool H.out.symm, B0.out⟩
  · have H := Lib.hid (NO.out (.inl h0))
    have hb0 : ((ws.length : Int) == 0) = false := by rw [beq_eq_false_iff_ne]; omega
    clear h0 NO
    go_enter Try.func40, Try.ntmps40
    go_wp2_with fail
    go_ret
    exact ⟨ret_bool H.out.symm, B0.out⟩
end
end Go.Proofs.Ytfjkelngdljikaa
