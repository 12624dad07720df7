/-
  The walks of layer 18: Great, and how long the rows are then. By an AI agent.
-/
import Derived.Test.YthohninbelhddaaVw
namespace Go.Proofs.Ythohninbelhddaa
open Go.RowKit

attribute [local go_sem] guard44

def C.Grt2 (rs : List (Option Addr × Nat × List C.Gl)) (w w' : World) (e : Ending) : Prop := ∃ r : Bool, e = .returned (.bool r) ∧ (r = false → rs.length ≤ 10 ∧ ∀ x ∈ rs, x.2.2.length ≤ 40) ∧ Below w.heap.size w w'
set_option maxRecDepth 10000 in
set_option maxHeartbeats 4000000 in
theorem great2_any (B : Nat) (v : C.VR) (w : World) (hv : C.Rv w B v.A v.rs) (hB : B ≤ w.heap.size) :
    Calls Try.prog 11 #[v.val] w fun e w' => C.Grt2 v.rs w w' e := by
  obtain ⟨vw, vh, A, c, rs, row, co, vis⟩ := v
  dsimp only [C.VR.val] at *
  obtain ⟨W, hW⟩ : ∃ W, w.alloc (.cells #[.int .i64 vw, .int .i64 vh, .slice A rs.length c, .int .i64 row, .int .i64 co, .bool vis] 24) = W := ⟨_, rfl⟩
  have hb0 : Below w.heap.size w W := by rw [← hW]; exact (Below.refl _ w).alloc (Nat.le_refl _) _
  have c2 : W.cell? ⟨w.heap.size, 2, none⟩ = some (.slice A rs.length c) := by rw [← hW]; exact World.cell?_alloc_new w _ _ _
  have HV := Lib.hid (hv.below hb0 hB)
  have hlen := Lib.hid hv.len
  clear hv
  by_cases h10 : 10 < rs.length
  · go_enter Try.func11, Try.ntmps11
    go_wp2
    go_ret
    exact ⟨true, rfl, fun h => (by cases h), hb0⟩
  · have h10' : decide ((10 : Int) < (rs.length : Int)) = false := decide_eq_false (by omega)
    go_enter Try.func11, Try.ntmps11
    go_wp2
    go_loop [3] (fun v3 => ∃ k : Nat, v3 = .int .i64 k ∧ k ≤ rs.length ∧ Hid (∀ i (_ : i < k) (hl : i < rs.length), rs[i].2.2.length ≤ 40)) (fun v3 => rs.length - (intOf v3).toNat)
    case atStart => exact ⟨0, rfl, Nat.zero_le _, Lib.hid (fun i h => absurd h (by omega))⟩
    case round =>
      obtain ⟨k, rfl, hk, hpre⟩ := hrel
      by_cases hlt : k < rs.length
      · obtain ⟨b, off, rfl, hb, hc⟩ := HV.out.at_ (by omega)
        have x0 := hc k hlt
        have q1 : (0 : Int) ≤ (k : Int) := by omega
        have q2 : (k : Int) < (rs.length : Int) := by omega
        obtain ⟨re, rl, rz⟩ := HV.out.each rs[k] (List.getElem_mem hlt)
        clear hc
        have hpre2 : Hid (rs[k].2.2.length ≤ 40 → ∀ i (_ : i < k + 1) (hl : i < rs.length), rs[i].2.2.length ≤ 40) := Lib.hid (fun h i hi hil => by
          by_cases e : i = k
          · subst e; exact h
          · exact hpre.out i (by omega) hil)
        clear hpre
        generalize rs[k] = r at *
        obtain ⟨rA, rc, gs⟩ := r
        dsimp only at *
        by_cases h40 : 40 < gs.length
        · clear re rz
          go_wp2
          go_ret
          exact ⟨true, rfl, fun h => (by cases h), hb0⟩
        · have hpre3 := Lib.hid (hpre2.out (by show gs.length ≤ 40; omega))
          clear hpre2
          have h40' : decide ((40 : Int) < (gs.length : Int)) = false := decide_eq_false (by omega)
          have RE := Lib.hid re
          have RZ := Lib.hid rz
          clear re rz
          go_wp2
          go_loop [4] (fun v4 => ∃ j : Nat, v4 = .int .i64 j ∧ j ≤ gs.length) (fun v4 => gs.length - (intOf v4).toNat)
          case atStart => exact ⟨0, rfl, Nat.zero_le _⟩
          case round =>
            obtain ⟨j, rfl, hj⟩ := hrel
            by_cases hjl : j < gs.length
            · obtain ⟨b', off', rfl, hb', hc'⟩ := C.glD RE.out (by omega)
              obtain ⟨y0, y1, y2⟩ := hc' j hjl
              have q3 : (0 : Int) ≤ (j : Int) := by omega
              have q4 : (j : Int) < (gs.length : Int) := by omega
              have sz := RZ.out gs[j] (List.getElem_mem hjl)
              clear hc' y1 y2
              generalize gs[j] = g at *
              by_cases h100 : 100 < g.t.size
              · go_wp2
                go_ret
                exact ⟨true, rfl, fun h => (by cases h), hb0⟩
              · have h100' : decide ((100 : Int) < (g.t.size : Int)) = false := decide_eq_false (by omega)
                go_wp2
                go_round
                case rel => exact ⟨j + 1, by go_num, hjl⟩
                case measure => simp [intOf] <;> omega
            · obtain rfl : j = gs.length := by omega
              go_wp2
              go_round
              case rel => exact ⟨k + 1, by go_num, hlt, hpre3⟩
              case measure => simp [intOf] <;> omega
      · obtain rfl : k = rs.length := by omega
        go_wp2
        go_ret
        exact ⟨false, rfl, fun _ => ⟨by omega, fun x hx => by
          obtain ⟨i, hi, rfl⟩ := List.getElem_of_mem hx
          exact hpre.out i hi hi⟩, hb0⟩
end Go.Proofs.Ythohninbelhddaa
