/-
  The walks of layer 18: SameChange and Great. By an AI agent.
-/
import Derived.Test.YthohninbelhddaaVw
namespace Go.Proofs.Ythohninbelhddaa
open Go.RowKit

attribute [local go_sem] guard44

set_option maxRecDepth 10000 in
set_option maxHeartbeats 4000000 in
theorem samechange_any (k r c n t k' r' c' n' t' : Int) (w : World) :
    Calls Try.prog 15 #[.agg #[.int .i64 k, .int .i64 r, .int .i64 c, .int .i64 n, .int .i64 t, .slice none 0 0], .agg #[.int .i64 k', .int .i64 r', .int .i64 c', .int .i64 n', .int .i64 t', .slice none 0 0]] w fun e w' => e = .returned (.bool (decide (k = k' ∧ r = r' ∧ c = c' ∧ n = n' ∧ t = t'))) ∧ Below w.heap.size w w' := by
  have hb0 : Below w.heap.size w ((w.alloc (.cells #[.int .i64 k, .int .i64 r, .int .i64 c, .int .i64 n, .int .i64 t, .slice none 0 0] 29)).alloc (.cells #[.int .i64 k', .int .i64 r', .int .i64 c', .int .i64 n', .int .i64 t', .slice none 0 0] 29)) := ((Below.refl _ w).alloc (Nat.le_refl _) _).alloc (by simp) _
  have SR : Hid (∀ w', Calls Try.prog 22 #[.slice none 0 0, .slice none 0 0] w' fun e w'' => e = .returned (.bool true) ∧ ∃ n, w'' = w'.drewN n) := Lib.hid (fun w' => by
    have := samerow_any none none 0 0 0 [] [] w' Reads.none_ Reads.none_ (by decide) (by decide)
    simpa using this)
  by_cases h0 : k = k'
  · have g0 : (k == k') = true := beq_iff_eq.2 h0
    by_cases h1 : r = r'
    · have g1 : (r == r') = true := beq_iff_eq.2 h1
      by_cases h2 : c = c'
      · have g2 : (c == c') = true := beq_iff_eq.2 h2
        by_cases h3 : n = n'
        · have g3 : (n == n') = true := beq_iff_eq.2 h3
          by_cases h4 : t = t'
          · have g4 : (t == t') = true := beq_iff_eq.2 h4
            have HE : Hid (decide (k = k' ∧ r = r' ∧ c = c' ∧ n = n' ∧ t = t') = true) := Lib.hid (decide_eq_true ⟨h0, h1, h2, h3, h4⟩)
            clear h0 h1 h2 h3 h4
            go_enter Try.func15, Try.ntmps15
            go_wp2_with fail
            refine (SR.out _).mono ?_
            rintro e' w1 ⟨rfl, m, rfl⟩
            go_wp2_with fail
            go_ret
            exact ⟨ret_bool HE.out.symm, below_drewN hb0 m⟩
          · have g4 : (t == t') = false := beq_eq_false_iff_ne.2 h4
            have HE : Hid (decide (k = k' ∧ r = r' ∧ c = c' ∧ n = n' ∧ t = t') = false) := Lib.hid (decide_eq_false (fun h => h4 h.2.2.2.2))
            clear h0 h1 h2 h3 h4 SR
            go_enter Try.func15, Try.ntmps15
            go_wp2
            go_ret
            exact ⟨ret_bool HE.out.symm, hb0⟩
        · have g3 : (n == n') = false := beq_eq_false_iff_ne.2 h3
          have HE : Hid (decide (k = k' ∧ r = r' ∧ c = c' ∧ n = n' ∧ t = t') = false) := Lib.hid (decide_eq_false (fun h => h3 h.2.2.2.1))
          clear h0 h1 h2 h3 SR
          go_enter Try.func15, Try.ntmps15
          go_wp2
          go_ret
          exact ⟨ret_bool HE.out.symm, hb0⟩
      · have g2 : (c == c') = false := beq_eq_false_iff_ne.2 h2
        have HE : Hid (decide (k = k' ∧ r = r' ∧ c = c' ∧ n = n' ∧ t = t') = false) := Lib.hid (decide_eq_false (fun h => h2 h.2.2.1))
        clear h0 h1 h2 SR
        go_enter Try.func15, Try.ntmps15
        go_wp2
        go_ret
        exact ⟨ret_bool HE.out.symm, hb0⟩
    · have g1 : (r == r') = false := beq_eq_false_iff_ne.2 h1
      have HE : Hid (decide (k = k' ∧ r = r' ∧ c = c' ∧ n = n' ∧ t = t') = false) := Lib.hid (decide_eq_false (fun h => h1 h.2.1))
      clear h0 h1 SR
      go_enter Try.func15, Try.ntmps15
      go_wp2
      go_ret
      exact ⟨ret_bool HE.out.symm, hb0⟩
  · have g0 : (k == k') = false := beq_eq_false_iff_ne.2 h0
    have HE : Hid (decide (k = k' ∧ r = r' ∧ c = c' ∧ n = n' ∧ t = t') = false) := Lib.hid (decide_eq_false (fun h => h0 h.1))
    clear h0 SR
    go_enter Try.func15, Try.ntmps15
    go_wp2
    go_ret
    exact ⟨ret_bool HE.out.symm, hb0⟩

def C.Grt (n : Nat) (w w' : World) (e : Ending) : Prop := ∃ r : Bool, e = .returned (.bool r) ∧ (r = false → n ≤ 10) ∧ Below w.heap.size w w'
set_option maxRecDepth 10000 in
set_option maxHeartbeats 4000000 in
theorem great_any (B : Nat) (v : C.VR) (w : World) (hv : C.Rv w B v.A v.rs) (hB : B ≤ w.heap.size) :
    Calls Try.prog 11 #[v.val] w fun e w' => C.Grt v.rs.length w w' e := by
  obtain ⟨vw, vh, A, c, rs, row, co, vis⟩ := v
  dsimp only [C.VR.val] at *
  obtain ⟨W, hW⟩ : ∃ W, w.alloc (.cells #[.int .i64 vw, .int .i64 vh, .slice A rs.length c, .int .i64 row, .int .i64 co, .bool vis] 24) = W := ⟨_, rfl⟩
  have hb0 : Below w.heap.size w W := by rw [← hW]; exact (Below.refl _ w).alloc (Nat.le_refl _) _
  have c2 : W.cell? ⟨w.heap.size, 2, none⟩ = some (.slice A rs.length c) := by rw [← hW]; exact World.cell?_alloc_new w _ _ _
  have HV := Lib.hid (hv.below hb0 hB)
  have hlen := Lib.hid hv.len
  clear hv
  by_cases h10 : 10 < rs.length
  · go_enter Try.func11, Try.ntmps11
    go_wp2
    go_ret
    exact ⟨true, rfl, fun h => (by cases h), hb0⟩
  · have h10' : decide ((10 : Int) < (rs.length : Int)) = false := decide_eq_false (by omega)
    go_enter Try.func11, Try.ntmps11
    go_wp2
    go_loop [3] (fun v3 => ∃ k : Nat, v3 = .int .i64 k ∧ k ≤ rs.length) (fun v3 => rs.length - (intOf v3).toNat)
    case atStart => exact ⟨0, rfl, Nat.zero_le _⟩
    case round =>
      obtain ⟨k, rfl, hk⟩ := hrel
      by_cases hlt : k < rs.length
      · obtain ⟨b, off, rfl, hb, hc⟩ := HV.out.at_ (by omega)
        have x0 := hc k hlt
        have q1 : (0 : Int) ≤ (k : Int) := by omega
        have q2 : (k : Int) < (rs.length : Int) := by omega
        obtain ⟨re, rl, rz⟩ := HV.out.each rs[k] (List.getElem_mem hlt)
        clear hc
        generalize rs[k] = r at *
        obtain ⟨rA, rc, gs⟩ := r
        dsimp only at *
        by_cases h40 : 40 < gs.length
        · clear re rz
          go_wp2
          go_ret
          exact ⟨true, rfl, fun h => (by cases h), hb0⟩
        · have h40' : decide ((40 : Int) < (gs.length : Int)) = false := decide_eq_false (by omega)
          have RE := Lib.hid re
          have RZ := Lib.hid rz
          clear re rz
          go_wp2
          go_loop [4] (fun v4 => ∃ j : Nat, v4 = .int .i64 j ∧ j ≤ gs.length) (fun v4 => gs.length - (intOf v4).toNat)
          case atStart => exact ⟨0, rfl, Nat.zero_le _⟩
          case round =>
            obtain ⟨j, rfl, hj⟩ := hrel
            by_cases hjl : j < gs.length
            · obtain ⟨b', off', rfl, hb', hc'⟩ := C.glD RE.out (by omega)
              obtain ⟨y0, y1, y2⟩ := hc' j hjl
              have q3 : (0 : Int) ≤ (j : Int) := by omega
              have q4 : (j : Int) < (gs.length : Int) := by omega
              have sz := RZ.out gs[j] (List.getElem_mem hjl)
              clear hc' y1 y2
              generalize gs[j] = g at *
              by_cases h100 : 100 < g.t.size
              · go_wp2
                go_ret
                exact ⟨true, rfl, fun h => (by cases h), hb0⟩
              · have h100' : decide ((100 : Int) < (g.t.size : Int)) = false := decide_eq_false (by omega)
                go_wp2
                go_round
                case rel => exact ⟨j + 1, by go_num, hjl⟩
                case measure => simp [intOf] <;> omega
            · obtain rfl : j = gs.length := by omega
              go_wp2
              go_round
              case rel => exact ⟨k + 1, by go_num, hlt⟩
              case measure => simp [intOf] <;> omega
      · obtain rfl : k = rs.length := by omega
        go_wp2
        go_ret
        exact ⟨false, rfl, fun _ => by omega, hb0⟩
end Go.Proofs.Ythohninbelhddaa
