/-
  The walks of layer 29: the reference's Check and Total. By an AI agent.
-/
import Derived.Lib.SliceRun
import Derived.Laws.CopyOwn
import Derived.Test.YtoemhphgnpedmaaOmt
namespace Go.Proofs.Ytoemhphgnpedmaa
open Go.RowKit

set_option maxRecDepth 100000 in
set_option maxHeartbeats 4000000 in
theorem refcheck_any (B : Nat) (A : Option Addr) (c : Nat) (rs : List (Option Addr × Nat × List Int)) (w : World) (h : C.Mx w B A rs) :
    Calls Try.prog 48 #[.slice A rs.length c] w fun e w' => e = .returned (.int .i64 (C.chkV (C.mt rs))) ∧ w = w' := by
  have hlen := h.len
  unfold maxLen at hlen
  have hl : (C.mt rs).length = rs.length := by simp [C.mt]
  have HM := Lib.hid h
  clear h
  by_cases h40 : 40 < rs.length
  · have h40' : decide ((40 : Int) < (rs.length : Int)) = true := decide_eq_true (by omega)
    have HV : Hid (C.chkV (C.mt rs) = 5) := Lib.hid (by unfold C.chkV; rw [if_pos (by omega)])
    go_enter Try.func48, Try.ntmps48
    go_wp2_with fail
    go_ret
    exact ⟨ret_int HV.out.symm, rfl⟩
  · have h40' : decide ((40 : Int) < (rs.length : Int)) = false := decide_eq_false (by omega)
    have HV : Hid (C.chkV (C.mt rs) = if (C.mt rs).any (fun l => l.length != rs.length) then 1 else if (C.mt rs).any (fun l => l.any fun x => decide (x < 0 ∨ 1000000 < x)) then 2 else 0) := Lib.hid (by unfold C.chkV; rw [if_neg (by omega), hl])
    have HLM := Lib.hid hl
    clear hl
    go_enter Try.func48, Try.ntmps48
    go_wp2_with fail
    go_loop [3] (fun v3 => ∃ k : Nat, v3 = .int .i64 k ∧ k ≤ rs.length ∧ Hid (∀ j (_ : j < k) (hj : j < rs.length), rs[j].2.2.length = rs.length)) (fun v3 => rs.length - (intOf v3).toNat)
    case atStart => exact ⟨0, rfl, Nat.zero_le _, Lib.hid (fun j h => absurd h (by omega))⟩
    case round =>
      obtain ⟨k, rfl, hk, hpre⟩ := hrel
      by_cases hlt : k < rs.length
      · have q1 : (0 : Int) ≤ (k : Int) := by omega
        have q2 : (k : Int) < (rs.length : Int) := by omega
        obtain ⟨b1, o1, rfl, _, h1⟩ := HM.out.at_ (by omega)
        have y0 := h1 k hlt
        by_cases he : rs[k].2.2.length = rs.length
        · have hpre2 : Hid (∀ j (_ : j < k + 1) (hj : j < rs.length), rs[j].2.2.length = rs.length) := Lib.hid (fun j h hj => by
            by_cases e : j = k
            · subst e; exact he
            · exact hpre.out j (by omega) hj)
          have hne : ((rs.length : Int) != (rs.length : Int)) = false := by simp
          rw [he] at y0
          clear he hpre h1
          generalize rs[k].2.1 = cr at *
          generalize rs[k].1 = ar at *
          go_wp2_with fail
          go_round
          case rel => exact ⟨k + 1, by go_num, hlt, hpre2⟩
          case measure => simp [intOf] <;> omega
        · have hne : ((rs[k].2.2.length : Int) != (rs.length : Int)) = true := bne_iff_ne.2 (by omega)
          have hv : Hid (C.chkV (C.mt rs) = 1) := Lib.hid (by
            rw [HV.out, if_pos]
            refine any_first (k := k) (by rw [HLM.out]; exact hlt) ?_
            simp [C.mt, he])
          clear he hpre h1
          generalize rs[k].2.1 = cr at *
          generalize rs[k].1 = ar at *
          generalize rs[k].2.2.length = nl at *
          go_wp2_with fail
          go_ret
          exact ⟨ret_int hv.out.symm, rfl⟩
      · have q1 : decide ((k : Int) < (rs.length : Int)) = false := decide_eq_false (by omega)
        have HR : Hid (∀ j (hj : j < rs.length), rs[j].2.2.length = rs.length) := Lib.hid (fun j hj => hpre.out j (by omega) hj)
        have HV2 : Hid (C.chkV (C.mt rs) = if (C.mt rs).any (fun l => l.any fun x => decide (x < 0 ∨ 1000000 < x)) then 2 else 0) := Lib.hid (by
          rw [HV.out, if_neg]
          rw [any_none (fun j hj => by
            have hj' : j < rs.length := by rw [HLM.out] at hj; exact hj
            simp [C.mt, HR.out j hj'])]
          decide)
        clear hpre HV
        go_wp2_with fail
        go_loop [4] (fun v4 => ∃ k : Nat, v4 = .int .i64 k ∧ k ≤ rs.length ∧ Hid (∀ j (_ : j < k) (hj : j < rs.length), ∀ x ∈ rs[j].2.2, 0 ≤ x ∧ x ≤ 1000000)) (fun v4 => rs.length - (intOf v4).toNat)
        case atStart => exact ⟨0, rfl, Nat.zero_le _, Lib.hid (fun j h => absurd h (by omega))⟩
        case round =>
          obtain ⟨i, rfl, hi, hpre⟩ := hrel
          by_cases hlt2 : i < rs.length
          · go_wp2_with fail
            go_loop [5] (fun v5 => ∃ t : Nat, v5 = .int .i64 t ∧ t ≤ rs.length ∧ Hid (∀ s (_ : s < t) (hs : s < rs[i].2.2.length), 0 ≤ rs[i].2.2[s] ∧ rs[i].2.2[s] ≤ 1000000)) (fun v5 => rs.length - (intOf v5).toNat)
            case atStart => exact ⟨0, rfl, Nat.zero_le _, Lib.hid (fun j h => absurd h (by omega))⟩
            case round =>
              obtain ⟨t, rfl, ht, hpt⟩ := hrel
              have q5 : (0 : Int) ≤ (i : Int) := by omega
              have q2 : (i : Int) < (rs.length : Int) := by omega
              by_cases hlt3 : t < rs.length
              · have hlr := HR.out i hlt2
                have htr : t < rs[i].2.2.length := by omega
                obtain ⟨b1, o1, rfl, _, h1⟩ := HM.out.at_ (by omega)
                have y0 := h1 i hlt2
                obtain ⟨b3, o3, hA, _, h3⟩ := C.nums_at (HM.out.each rs[i] (List.getElem_mem hlt2)).1 (by omega)
                have z0 := h3 t htr
                rw [hA, hlr] at y0
                have q3 : (0 : Int) ≤ (t : Int) := by omega
                have q4 : (t : Int) < (rs.length : Int) := by omega
                by_cases c1 : 0 ≤ rs[i].2.2[t] ∧ rs[i].2.2[t] ≤ 1000000
                · have hpt2 : Hid (∀ s (_ : s < t + 1) (hs : s < rs[i].2.2.length), 0 ≤ rs[i].2.2[s] ∧ rs[i].2.2[s] ≤ 1000000) := Lib.hid (fun s h hs => by
                    by_cases e : s = t
                    · subst e; exact c1
                    · exact hpt.out s (by omega) hs)
                  have t1 : decide (rs[i].2.2[t] < 0) = false := decide_eq_false (by omega)
                  have t2 : decide (1000000 < rs[i].2.2[t]) = false := decide_eq_false (by omega)
                  clear hpt h1 h3 hA
                  generalize rs[i].2.1 = cr at *
                  generalize hx : rs[i].2.2[t] = x at z0 t1 t2 c1
                  clear hx
                  go_wp2_with fail
                  go_round
                  case rel => exact ⟨t + 1, by go_num, hlt3, hpt2⟩
                  case measure => simp [intOf] <;> omega
                · have hv : Hid (C.chkV (C.mt rs) = 2) := Lib.hid (by
                    rw [HV2.out, if_pos]
                    refine any_first (k := i) (by rw [HLM.out]; exact hlt2) ?_
                    refine any_first (k := t) (by simpa [C.mt] using htr) ?_
                    simp only [C.mt, List.getElem_map, decide_eq_true_eq]
                    omega)
                  clear hpt h1 h3 hA
                  generalize rs[i].2.1 = cr at *
                  generalize hx : rs[i].2.2[t] = x at z0 c1
                  clear hx
                  by_cases c2 : x < 0
                  · have t1 : decide (x < 0) = true := decide_eq_true c2
                    go_wp2_with fail
                    go_ret
                    exact ⟨ret_int hv.out.symm, rfl⟩
                  · have t1 : decide (x < 0) = false := decide_eq_false c2
                    have t2 : decide (1000000 < x) = true := decide_eq_true (by omega)
                    go_wp2_with fail
                    go_ret
                    exact ⟨ret_int hv.out.symm, rfl⟩
              · have q3 : decide ((t : Int) < (rs.length : Int)) = false := decide_eq_false (by omega)
                have hpre2 : Hid (∀ j (_ : j < i + 1) (hj : j < rs.length), ∀ x ∈ rs[j].2.2, 0 ≤ x ∧ x ≤ 1000000) := Lib.hid (fun j h hj x hx => by
                  by_cases e : j = i
                  · subst e
                    obtain ⟨s, hs, rfl⟩ := List.mem_iff_getElem.1 hx
                    have := HR.out j hj
                    exact hpt.out s (by omega) hs
                  · exact hpre.out j (by omega) hj x hx)
                clear hpre hpt
                go_wp2
                go_round
                case rel => exact ⟨i + 1, by go_num, hlt2, hpre2⟩
                case measure => simp [intOf] <;> omega
          · have q3 : decide ((i : Int) < (rs.length : Int)) = false := decide_eq_false (by omega)
            have hv : Hid (C.chkV (C.mt rs) = 0) := Lib.hid (by
              rw [HV2.out, if_neg]
              rw [any_none (fun j hj => by
                have hj' : j < rs.length := by rw [HLM.out] at hj; exact hj
                refine any_none fun s hs => decide_eq_false ?_
                have := hpre.out j (by omega) hj' ((C.mt rs)[j][s]) (by simp only [C.mt, List.getElem_map]; exact List.getElem_mem _)
                omega)]
              decide)
            clear hpre
            go_wp2_with fail
            go_ret
            exact ⟨ret_int hv.out.symm, rfl⟩
end Go.Proofs.Ytoemhphgnpedmaa
