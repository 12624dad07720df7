/-
  The walks of layer 30: whether two lists of regions are equal; whether the IDs are different. By an AI agent.
-/
import Derived.Laws.StructEq
import Derived.Laws.Small
import Derived.Deep.LoopGhost
import Derived.Test.YtoemhphgnpedmaaRg
import Derived.Test.YtoemhphgnpedmaaLk2
namespace Go.Proofs.Ytoemhphgnpedmaa
open Go.RowKit

theorem guard27 : Try.prog.eqGuardType Try.prog.depth 27 = false := by kernel_rfl
theorem bytes_eq (a b : ByteArray) : (a.toList == b.toList) = decide (a = b) := by
  rw [ByteArray.toList_eq, ByteArray.toList_eq]
  obtain ⟨⟨x⟩⟩ := a
  obtain ⟨⟨y⟩⟩ := b
  by_cases h : x = y <;> simp [h]
attribute [local go_sem] guard27
set_option maxHeartbeats 2000000 in
theorem I.eql_run (a b : I.Rg) (w : World) : (Op.equalIn 10000 27 a.val b.val).run Try.prog w = .ok (decide (a = b)) w := by
  obtain ⟨ak, ai, ap, at_, al, ab, ar, alb⟩ := a
  obtain ⟨bk, bi, bp, bt, bl, bb, br, blb⟩ := b
  simp only [I.Rg.val, I.Rg.cells]
  by_cases h0 : ak = bk
  case neg => simp [go_sem, h0]
  by_cases h1 : ai = bi
  case neg => simp [go_sem, h0, h1]
  by_cases h2 : ap = bp
  case neg => simp [go_sem, h0, h1, h2]
  by_cases h3 : at_ = bt
  case neg => simp [go_sem, h0, h1, h2, h3]
  by_cases h4 : al = bl
  case neg => simp [go_sem, h0, h1, h2, h3, h4]
  by_cases h5 : ab = bb
  case neg => simp [go_sem, h0, h1, h2, h3, h4, h5]
  by_cases h6 : ar = br
  case neg => simp [go_sem, h0, h1, h2, h3, h4, h5, h6]
  by_cases h7 : alb = blb
  case neg => simp [go_sem, bytes_eq, h0, h1, h2, h3, h4, h5, h6, h7]
  simp [go_sem, bytes_eq, h0, h1, h2, h3, h4, h5, h6, h7]
theorem I.neq_run (a b : I.Rg) (w : World) : (binOp .neq 27 a.val b.val).run Try.prog w = .ok (.bool (!decide (a = b))) w := by
  have h := I.eql_run a b w
  simp only [I.Rg.val] at h ⊢
  rw [run_neq_struct, h]
  rfl
theorem I.eq_run (a b : I.Rg) (w : World) : (binOp .eql 27 a.val b.val).run Try.prog w = .ok (.bool (decide (a = b))) w := by
  have h := I.eql_run a b w
  simp only [I.Rg.val] at h ⊢
  rw [run_eql_struct, h]
  rfl
set_option maxRecDepth 100000 in
set_option maxHeartbeats 8000000 in
theorem same_any (A1 A2 : Option Addr) (c1 c2 B : Nat) (a b : List I.Rg) (w : World) (ha : Reads w B 8 A1 a.length (I.rcs a)) (hb : Reads w B 8 A2 b.length (I.rcs b)) (hna : a.length ≤ maxLen) (hnb : b.length ≤ maxLen) :
    Calls Try.prog 17 #[.slice A1 a.length c1, .slice A2 b.length c2] w fun e w' => e = .returned (.bool (decide (a = b))) ∧ ∃ n, w' = w.drewN n := by
  have HA := Lib.hid ha
  have HB := Lib.hid hb
  unfold maxLen at hna hnb
  clear ha hb
  by_cases hl : a.length = b.length
  · have HL := Lib.hid hl
    have hl1 : ((a.length : Int) != (b.length : Int)) = false := by simp [hl]
    have hle : b.length ≤ a.length := by omega
    have hle2 : a.length ≤ b.length := by omega
    clear hl
    go_enter Try.func17, Try.ntmps17
    go_wp2
    go_loopw [5] (fun i wr => ∃ k : Nat, k ≤ a.length ∧ i = .int .i64 k ∧ Hid (∀ j (h : j < k), a.getD j default = b.getD j default) ∧ ∃ n, wr = w.drewN n) (fun i _ => a.length - (intOf i).toNat)
    case atStart => exact ⟨0, Nat.zero_le _, rfl, Lib.hid (fun j h => absurd h (by omega)), 0, rfl⟩
    case round =>
      obtain ⟨k, hk, rfl, hprev, n, rfl⟩ := hrel
      by_cases hlt : k < a.length
      · obtain ⟨b1, o1, rfl, _, h1⟩ := HA.out.rg (by omega)
        obtain ⟨b2, o2, rfl, _, h2⟩ := HB.out.rg (by omega)
        obtain ⟨x0, x1, x2, x3, x4, x5, x6, x7⟩ := h1 k hlt
        obtain ⟨y0, y1, y2, y3, y4, y5, y6, y7⟩ := h2 k (by omega)
        have q1 : (0 : Int) ≤ (k : Int) := by omega
        have q2 : (k : Int) < (a.length : Int) := by omega
        have q3 : (k : Int) < (b.length : Int) := by omega
        have hq := fun w' => I.neq_run (a.getD k default) (b.getD k default) w'
        clear h1 h2
        by_cases hxy : a.getD k default = b.getD k default
        · have hp2 : Hid (∀ j (h : j < k + 1), a.getD j default = b.getD j default) := Lib.hid (fun j hj => by
            by_cases e : j = k
            · subst e; exact hxy
            · exact hprev.out j (by omega))
          rw [decide_eq_true hxy] at hq
          clear hxy hprev
          generalize b.getD k default = y at *
          generalize a.getD k default = x at *
          simp only [I.Rg.val, I.Rg.cells] at hq
          go_wp2_with fail
          go_quiet (fail)
          go_wp2
          go_roundw
          case rel => exact ⟨k + 1, hlt, by go_num, hp2, n + nq, by simp⟩
          case measure => simp [intOf] <;> omega
        · have hne : Hid (decide (a = b) = false) := Lib.hid (decide_eq_false (fun e => hxy (by subst e; rfl)))
          rw [decide_eq_false hxy] at hq
          clear hxy
          generalize b.getD k default = y at *
          generalize a.getD k default = x at *
          simp only [I.Rg.val, I.Rg.cells] at hq
          go_wp2_with fail
          go_quiet (fail)
          go_wp2
          go_ret
          exact ⟨ret_bool hne.out.symm, n + nq, by simp⟩
      · obtain rfl : k = a.length := by omega
        have hey : Hid (decide (a = b) = true) := Lib.hid (decide_eq_true (List.ext_getElem HL.out (fun j g1 g2 => by
          have := hprev.out j g1
          simpa [List.getD, g1, g2] using this)))
        go_wp2
        go_ret
        exact ⟨ret_bool hey.out.symm, n, rfl⟩
  · have hne : Hid (decide (a = b) = false) := Lib.hid (decide_eq_false (fun e => hl (by rw [e])))
    have hl1 : ((a.length : Int) != (b.length : Int)) = true := bne_iff_ne.2 (by omega)
    clear hl
    go_enter Try.func17, Try.ntmps17
    go_wp2
    go_ret
    exact ⟨ret_bool hne.out.symm, 0, rfl⟩
end Go.Proofs.Ytoemhphgnpedmaa
