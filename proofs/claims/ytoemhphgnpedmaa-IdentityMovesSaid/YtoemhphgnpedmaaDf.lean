/-
  The walks of layer 30: whether the IDs of regions are different. By an AI agent.
-/
import Derived.Test.YtoemhphgnpedmaaSm
namespace Go.Proofs.Ytoemhphgnpedmaa
open Go.RowKit

set_option maxRecDepth 100000 in
set_option maxHeartbeats 8000000 in
theorem different_any (A : Option Addr) (c B : Nat) (l : List I.Rg) (most : Int) (b : Bool) (w : World) (hr : Reads w B 8 A l.length (I.rcs l)) (hm : l.length ≤ maxLen) (hb : b = true ↔ I.Diff l most) :
    Calls Try.prog 12 #[.slice A l.length c, .int .i64 most] w fun e w' => e = .returned (.bool b) ∧ ∃ n, w' = w.drewN n := by
  unfold maxLen at hm
  have HB := Lib.hid hb
  have HA := Lib.hid hr
  clear hb hr
  go_enter Try.func12, Try.ntmps12
  go_wp2
  go_loopw [9] (fun i wr => ∃ k : Nat, k ≤ l.length ∧ i = .int .i64 k ∧ Hid (∀ j, j < k → (l.getD j default).id < most ∧ ∀ t, t < j → (l.getD j default).id ≠ (l.getD t default).id) ∧ ∃ n, wr = w.drewN n) (fun i _ => l.length - (intOf i).toNat)
  case atStart => exact ⟨0, Nat.zero_le _, rfl, Lib.hid (fun j h => absurd h (by omega)), 0, rfl⟩
  case round =>
    obtain ⟨k, hk, rfl, hprev, n, rfl⟩ := hrel
    by_cases hlt : k < l.length
    · obtain ⟨b1, o1, rfl, _, h1⟩ := HA.out.rg (by omega)
      have x1 := (h1 k hlt).c1
      have H1 := Lib.hid (fun t (ht : t < l.length) => (h1 t ht).c1)
      have q1 : (0 : Int) ≤ (k : Int) := by omega
      have q2 : (k : Int) < (l.length : Int) := by omega
      clear h1
      by_cases hbig : most ≤ (l.getD k default).id
      · have hbf : Hid (b = false) := Lib.hid (by
          cases b with
          | false => rfl
          | true => have := (HB.out.1 rfl).1 k hlt; omega)
        clear HB hprev
        generalize (l.getD k default).id = x at *
        go_wp2
        go_ret
        exact ⟨ret_bool hbf.out.symm, n, rfl⟩
      · obtain ⟨x, hx⟩ : ∃ x, (l.getD k default).id = x := ⟨_, rfl⟩
        rw [hx] at x1 hbig
        have HX := Lib.hid hx
        clear hx
        go_wp2
        go_loopw [20] (fun i wi => ∃ m : Nat, m ≤ k ∧ i = .int .i64 m ∧ Hid (∀ t, t < m → x ≠ (l.getD t default).id) ∧ ∃ n, wi = w.drewN n) (fun i _ => k - (intOf i).toNat)
        case atStart => exact ⟨0, Nat.zero_le _, rfl, Lib.hid (fun j h => absurd h (by omega)), n, rfl⟩
        case round =>
          obtain ⟨m, hmk, rfl, hin, n2, rfl⟩ := hrel
          by_cases hml : m < k
          · have y1 := H1.out m (by omega)
            obtain ⟨y, hy⟩ : ∃ y, (l.getD m default).id = y := ⟨_, rfl⟩
            rw [hy] at y1
            have HY := Lib.hid hy
            clear hy
            have q3 : (0 : Int) ≤ (m : Int) := by omega
            have q4 : (m : Int) < (l.length : Int) := by omega
            by_cases hxy : x = y
            · have hbf : Hid (b = false) := Lib.hid (by
                cases b with
                | false => rfl
                | true => exact absurd (HX.out.trans (hxy.trans HY.out.symm)) ((HB.out.1 rfl).2 k m hlt hml))
              have hxb : (x == y) = true := beq_iff_eq.2 hxy
              clear hxy HX HY HB hin hprev
              go_wp2_with fail
              go_quiet (fail)
              go_wp2
              go_ret
              exact ⟨ret_bool hbf.out.symm, n2 + nq, by simp⟩
            · have hxb : (x == y) = false := beq_eq_false_iff_ne.2 hxy
              have hin2 : Hid (∀ t, t < m + 1 → x ≠ (l.getD t default).id) := Lib.hid (fun t ht => by
                by_cases e : t = m
                · subst e; rw [HY.out]; exact hxy
                · exact hin.out t (by omega))
              clear hxy hin HY
              go_wp2_with fail
              go_quiet (fail)
              go_wp2
              go_roundw
              case rel => exact ⟨m + 1, by omega, by go_num, hin2, n2 + nq, by simp⟩
              case measure => simp [intOf] <;> omega
          · obtain rfl : m = k := by omega
            have hp2 : Hid (∀ j, j < m + 1 → (l.getD j default).id < most ∧ ∀ t, t < j → (l.getD j default).id ≠ (l.getD t default).id) := Lib.hid (fun j hj => by
              by_cases e : j = m
              · subst e
                rw [HX.out]
                exact ⟨by omega, fun t ht => hin.out t ht⟩
              · exact hprev.out j (by omega))
            clear hprev hin
            go_wp2
            go_roundw
            case rel => exact ⟨m + 1, hlt, by go_num, hp2, n2, rfl⟩
            case measure => simp [intOf] <;> omega
    · obtain rfl : k = l.length := by omega
      have hbt : Hid (b = true) := Lib.hid (HB.out.2 ⟨fun i hi => (hprev.out i hi).1, fun i t hi ht => (hprev.out i hi).2 t ht⟩)
      clear HB hprev
      go_wp2
      go_ret
      exact ⟨ret_bool hbt.out.symm, n, rfl⟩
end Go.Proofs.Ytoemhphgnpedmaa
