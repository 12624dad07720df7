/-
  Layer 9: the laws Backward and Inverse. By an AI agent.
-/
import Derived.Test.YteolkaheaaepiaaLaws1
namespace Go.Proofs.Yteolkaheaaepiaa
open Go.RowKit

theorem T.upto_in {n c : Nat} (h : c ≤ n) : T.upto n (c : Int) = c := by unfold T.upto; omega

theorem backward_any (A : Option Addr) (cap : Nat) (ls : List Bool) (ci : Int) (w : World) (hr : Reads w w.heap.size 1 A ls.length (ls.map Value.bool)) (hm : ls.length ≤ 140737488351232) (hc0 : 0 ≤ ci) (hc1 : ci ≤ 255) :
    Calls Try.prog 5 #[.slice A ls.length cap, .int .u8 ci] w fun e w' => e = .returned (.bool true) ∧ Below w.heap.size w w' := by
  obtain ⟨c, rfl⟩ := Int.eq_ofNat_of_zero_le hc0
  by_cases h : ls.length ≤ 140
  · have h1 : ls.length ≤ 1000 := by omega
    have FY := Lib.hid (fun w => fine_yes A cap ls.length w h)
    by_cases hlt : c < ls.length
    · by_cases hz : c = 0
      · have hz1 : ((c : Int) == 0) = true := by simp [hz]
        subst hz
        have hq : ¬ ls = [] := by rintro rfl; simp at hlt
        clear hr
        go_enter Try.func5, Try.ntmps5
        go_wp2_with fail
        refine (FY.out _).mono ?_
        rintro e w' ⟨rfl, rfl⟩
        go_wp2_with fail
        refine (awake_any _).mono ?_
        rintro e w' ⟨rfl, hb⟩
        go_wp2_with fail
        go_ret
        exact ⟨rfl, hb⟩
      · have hz1 : ((c : Int) == 0) = false := by rw [beq_eq_false_iff_ne]; omega
        have hz2 : 1 ≤ c := by omega
        clear hz
        have N1 := previous_any A cap _ ls c w hr h1
        rw [T.upto_in (by omega)] at N1
        have N1 := Lib.hid N1
        have N2 := previous_any A cap _ ls 0 w hr h1
        rw [show T.pv ls (T.upto ls.length 0) = 0 from by simp [T.upto, T.pv]] at N2
        have N2 := Lib.hid N2
        obtain ⟨f1, f2⟩ := T.pv_cases ls c (by omega)
        have f3 := T.pv_le ls c
        have HR := Lib.hid hr
        generalize T.pv ls c = n at *
        have F2 := Lib.hid f2
        have f4 : n < ls.length := by omega
        have hcn : ∃ ad, A = some ad ∧ w.cell? (ad.add n) = some (.bool ls[n]) := by
          obtain ⟨ad, e, _, hc⟩ := HR.out.bool f4
          exact ⟨ad, e, hc⟩
        obtain ⟨ad, rfl, hcn⟩ := hcn
        have hdis : (ls[n] = true ∧ 0 < n) ∨ n = 0 := by
          rcases f1 with ⟨h, _⟩ | h
          · rw [List.getElem?_eq_getElem f4] at h
            by_cases hn : n = 0
            · exact .inr hn
            · exact .inl ⟨Option.some.inj h, by omega⟩
          · exact .inr h
        generalize ls[n] = bn at *
        clear hr f1 f2
        rcases hdis with ⟨rfl, hh⟩ | rfl
        all_goals
          go_enter Try.func5, Try.ntmps5
          go_wp2_with fail
          refine (FY.out _).mono ?_
          rintro e w' ⟨rfl, rfl⟩
          go_wp2_with fail
          refine N1.out.mono ?_
          rintro e w' ⟨rfl, rfl⟩
          go_wp2_with fail
        · go_loop [7] (fun i => ∃ k : Nat, n < k ∧ k ≤ c ∧ i = .int .i64 k) (fun i => c - (intOf i).toNat)
          case atStart => exact ⟨n + 1, by omega, by omega, by go_num⟩
          case round =>
            obtain ⟨k, hk1, hk2, rfl⟩ := hrel
            by_cases hkn : k < c
            · have hkl : k < ls.length := by omega
              have hck : w.cell? (ad.add k) = some (.bool false) := by
                obtain ⟨ad', e, _, hc⟩ := HR.out.bool hkl
                obtain rfl : ad = ad' := Option.some.inj e
                have := F2.out k hk1 hkn
                rw [List.getElem?_eq_getElem hkl] at this
                rw [hc, Option.some.inj this]
              go_wp2_with fail
              go_round
              case rel => exact ⟨k + 1, by omega, by omega, by go_num⟩
              case measure => simp [intOf] <;> omega
            · obtain rfl : k = c := by omega
              go_wp2_with fail
              refine N2.out.mono ?_
              rintro e w' ⟨rfl, rfl⟩
              go_wp2_with fail
              refine (awake_any _).mono ?_
              rintro e w' ⟨rfl, hb⟩
              go_wp2_with fail
              go_ret
              exact ⟨rfl, hb⟩
        · go_loop [7] (fun i => ∃ k : Nat, 0 < k ∧ k ≤ c ∧ i = .int .i64 k) (fun i => c - (intOf i).toNat)
          case atStart => exact ⟨0 + 1, by omega, by omega, by go_num⟩
          case round =>
            obtain ⟨k, hk1, hk2, rfl⟩ := hrel
            by_cases hkn : k < c
            · have hkl : k < ls.length := by omega
              have hck : w.cell? (ad.add k) = some (.bool false) := by
                obtain ⟨ad', e, _, hc⟩ := HR.out.bool hkl
                obtain rfl : ad = ad' := Option.some.inj e
                have := F2.out k hk1 hkn
                rw [List.getElem?_eq_getElem hkl] at this
                rw [hc, Option.some.inj this]
              go_wp2_with fail
              go_round
              case rel => exact ⟨k + 1, by omega, by omega, by go_num⟩
              case measure => simp [intOf] <;> omega
            · obtain rfl : k = c := by omega
              go_wp2_with fail
              refine N2.out.mono ?_
              rintro e w' ⟨rfl, rfl⟩
              go_wp2_with fail
              refine (awake_any _).mono ?_
              rintro e w' ⟨rfl, hb⟩
              go_wp2_with fail
              go_ret
              exact ⟨rfl, hb⟩
    · clear hr
      go_enter Try.func5, Try.ntmps5
      go_wp2_with fail
      refine (FY.out _).mono ?_
      rintro e w' ⟨rfl, rfl⟩
      go_wp2_with fail
      refine (awake_any _).mono ?_
      rintro e w' ⟨rfl, hb⟩
      go_wp2_with fail
      go_ret
      exact ⟨rfl, hb⟩
  · have FN := Lib.hid (fun w => fine_no A cap ls.length w (by omega) h)
    clear hr hm
    go_enter Try.func5, Try.ntmps5
    go_wp2_with fail
    refine (FN.out _).mono ?_
    rintro e w' ⟨rfl, rfl⟩
    go_wp2_with fail
    refine (awake_any _).mono ?_
    rintro e w' ⟨rfl, hb⟩
    go_wp2_with fail
    go_ret
    exact ⟨rfl, hb⟩

theorem inverse_any (A : Option Addr) (cap : Nat) (ls : List Bool) (ci : Int) (w : World) (hr : Reads w w.heap.size 1 A ls.length (ls.map Value.bool)) (hm : ls.length ≤ 140737488351232) (hc0 : 0 ≤ ci) (hc1 : ci ≤ 255) :
    Calls Try.prog 6 #[.slice A ls.length cap, .int .u8 ci] w fun e w' => e = .returned (.bool true) ∧ Below w.heap.size w w' := by
  obtain ⟨c, rfl⟩ := Int.eq_ofNat_of_zero_le hc0
  by_cases h : ls.length ≤ 140
  · have h1 : ls.length ≤ 1000 := by omega
    have FY := Lib.hid (fun w => fine_yes A cap ls.length w h)
    by_cases hlt : c + 1 < ls.length
    · have N1 := Lib.hid (next_any A cap _ ls c w hr h1)
      obtain ⟨f1, f2, f3, f4⟩ := T.nxt_bd hlt
      have P1 := previous_any A cap _ ls (T.nxt ls c : Int) w hr h1
      have P2 := previous_any A cap _ ls c w hr h1
      rw [T.upto_in (by omega)] at P1 P2
      have hcl : c < ls.length := by omega
      have e1 : T.pv ls (T.nxt ls c) = T.pv ls (c + 1) := T.pv_skip ls (by omega) (fun j a b => by
        have := f4 j (by omega) b
        rw [List.getD_eq_getElem?_getD, this]; rfl)
      have e2 : T.pv ls (c + 1) = if ls[c] then c else T.pv ls c := by simp [T.pv, List.getD_eq_getElem?_getD, List.getElem?_eq_getElem hcl]
      rw [e1, e2] at P1
      have P1 := Lib.hid P1
      have P2 := Lib.hid P2
      obtain ⟨ad, rfl, _, hc⟩ := hr.bool hcl
      clear e1 e2 f4 f3 hr
      generalize ls[c] = b at *
      generalize T.nxt ls c = n at *
      generalize T.pv ls c = p at *
      cases b
      · have P1 : Hid (Calls Try.prog 14 #[.slice (some ad) ls.length cap, .int .i64 n] w fun e w' => e = .returned (.int .i64 p) ∧ w = w') := P1
        go_enter Try.func6, Try.ntmps6
        go_wp2_with fail
        refine (FY.out _).mono ?_
        rintro e w' ⟨rfl, rfl⟩
        go_wp2_with fail
        refine N1.out.mono ?_
        rintro e w' ⟨rfl, rfl⟩
        go_wp2_with fail
        refine P1.out.mono ?_
        rintro e w' ⟨rfl, rfl⟩
        go_wp2_with fail
        refine P2.out.mono ?_
        rintro e w' ⟨rfl, rfl⟩
        go_wp2_with fail
        refine (awake_any _).mono ?_
        rintro e w' ⟨rfl, hb⟩
        go_wp2_with fail
        go_ret
        exact ⟨rfl, hb⟩
      · have P1 : Hid (Calls Try.prog 14 #[.slice (some ad) ls.length cap, .int .i64 n] w fun e w' => e = .returned (.int .i64 c) ∧ w = w') := P1
        go_enter Try.func6, Try.ntmps6
        go_wp2_with fail
        refine (FY.out _).mono ?_
        rintro e w' ⟨rfl, rfl⟩
        go_wp2_with fail
        refine N1.out.mono ?_
        rintro e w' ⟨rfl, rfl⟩
        go_wp2_with fail
        refine P1.out.mono ?_
        rintro e w' ⟨rfl, rfl⟩
        go_wp2_with fail
        refine (awake_any _).mono ?_
        rintro e w' ⟨rfl, hb⟩
        go_wp2_with fail
        go_ret
        exact ⟨rfl, hb⟩
    · clear hr
      go_enter Try.func6, Try.ntmps6
      go_wp2_with fail
      refine (FY.out _).mono ?_
      rintro e w' ⟨rfl, rfl⟩
      go_wp2_with fail
      refine (awake_any _).mono ?_
      rintro e w' ⟨rfl, hb⟩
      go_wp2_with fail
      go_ret
      exact ⟨rfl, hb⟩
  · have FN := Lib.hid (fun w => fine_no A cap ls.length w (by omega) h)
    clear hr hm
    go_enter Try.func6, Try.ntmps6
    go_wp2_with fail
    refine (FN.out _).mono ?_
    rintro e w' ⟨rfl, rfl⟩
    go_wp2_with fail
    refine (awake_any _).mono ?_
    rintro e w' ⟨rfl, hb⟩
    go_wp2_with fail
    go_ret
    exact ⟨rfl, hb⟩
end Go.Proofs.Yteolkaheaaepiaa
