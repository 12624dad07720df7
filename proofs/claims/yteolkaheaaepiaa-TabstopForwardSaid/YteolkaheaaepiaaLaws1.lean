/-
  Layer 9: the laws that only read: Moves, Forward, Backward, Inverse. By an AI agent.
-/
import Derived.Test.YteolkaheaaepiaaWalks3
namespace Go.Proofs.Yteolkaheaaepiaa
open Go.RowKit

theorem fine_yes (A : Option Addr) (c n : Nat) (w : World) (h : n ≤ 140) : Calls Try.prog 10 #[.slice A n c] w fun e w' => e = .returned (.bool true) ∧ w = w' :=
  (fine_any A c n w (by omega)).mono fun e w' ⟨he, hw⟩ => ⟨by rw [he]; simp [h], hw⟩
theorem fine_no (A : Option Addr) (c n : Nat) (w : World) (hm : n ≤ 9223372036854775807) (h : ¬ n ≤ 140) : Calls Try.prog 10 #[.slice A n c] w fun e w' => e = .returned (.bool false) ∧ w = w' :=
  (fine_any A c n w hm).mono fun e w' ⟨he, hw⟩ => ⟨by rw [he]; simp [h], hw⟩

theorem moves_any (A : Option Addr) (cap : Nat) (ls : List Bool) (c : Int) (w : World) (hr : Reads w w.heap.size 1 A ls.length (ls.map Value.bool)) (hm : ls.length ≤ 140737488351232) (_ : -9223372036854775808 ≤ c) (_ : c ≤ 9223372036854775807) :
    Calls Try.prog 3 #[.slice A ls.length cap, .int .i64 c] w fun e w' => e = .returned (.bool true) ∧ Below w.heap.size w w' := by
  by_cases h : ls.length ≤ 140
  · have h1 : ls.length ≤ 1000 := by omega
    have FY := Lib.hid (fun w => fine_yes A cap ls.length w h)
    have N1 := Lib.hid (next_any A cap _ ls c w hr h1)
    have N2 := Lib.hid (refnext_any A cap _ ls c w hr h1)
    have P1 := Lib.hid (previous_any A cap _ ls c w hr h1)
    have P2 := Lib.hid (refprevious_any A cap _ ls c w hr h1)
    clear hr
    go_enter Try.func3, Try.ntmps3
    go_wp2_with fail
    refine (FY.out _).mono ?_
    rintro e w' ⟨rfl, rfl⟩
    go_wp2_with fail
    refine (FY.out _).mono ?_
    rintro e w' ⟨rfl, rfl⟩
    go_wp2_with fail
    refine N1.out.mono ?_
    rintro e w' ⟨rfl, rfl⟩
    go_wp2_with fail
    refine N2.out.mono ?_
    rintro e w' ⟨rfl, rfl⟩
    go_wp2_with fail
    refine P1.out.mono ?_
    rintro e w' ⟨rfl, rfl⟩
    go_wp2_with fail
    refine P2.out.mono ?_
    rintro e w' ⟨rfl, rfl⟩
    go_wp2_with fail
    refine (awake_any _).mono ?_
    rintro e w' ⟨rfl, hb⟩
    go_wp2_with fail
    go_ret
    exact ⟨rfl, hb⟩
  · have FN := Lib.hid (fun w => fine_no A cap ls.length w (by omega) h)
    clear hr hm
    go_enter Try.func3, Try.ntmps3
    go_wp2_with fail
    refine (FN.out _).mono ?_
    rintro e w' ⟨rfl, rfl⟩
    go_wp2_with fail
    refine (awake_any _).mono ?_
    rintro e w' ⟨rfl, hb⟩
    go_wp2_with fail
    go_ret
    exact ⟨rfl, hb⟩

theorem T.nxt_bd {l : List Bool} {c : Nat} (h : c + 1 < l.length) : c < T.nxt l c ∧ T.nxt l c < l.length ∧ (T.nxt l c < l.length - 1 → l[T.nxt l c]? = some true) ∧ ∀ j : Nat, c < j → j < T.nxt l c → l[j]? = some false := by
  rcases T.nxt_cases l c with ⟨h1, h2, h3, h4⟩ | ⟨h1, h2⟩
  · exact ⟨by omega, h1, fun _ => h3, fun j a b => h4 j b (by omega)⟩
  · exact ⟨by omega, by omega, fun hh => by omega, fun j a b => h2 j (by omega) (by omega)⟩

theorem forward_any (A : Option Addr) (cap : Nat) (ls : List Bool) (ci : Int) (w : World) (hr : Reads w w.heap.size 1 A ls.length (ls.map Value.bool)) (hm : ls.length ≤ 140737488351232) (hc0 : 0 ≤ ci) (hc1 : ci ≤ 255) :
    Calls Try.prog 4 #[.slice A ls.length cap, .int .u8 ci] w fun e w' => e = .returned (.bool true) ∧ Below w.heap.size w w' := by
  obtain ⟨c, rfl⟩ := Int.eq_ofNat_of_zero_le hc0
  by_cases h : ls.length ≤ 140
  · have h1 : ls.length ≤ 1000 := by omega
    have FY := Lib.hid (fun w => fine_yes A cap ls.length w h)
    by_cases hlt : c + 1 < ls.length
    · have N1 := Lib.hid (next_any A cap _ ls c w hr h1)
      have N2 := Lib.hid (next_any A cap _ ls ((ls.length : Int) - 1) w hr h1)
      have E2 : T.nxt ls ((ls.length : Int) - 1) = ls.length - 1 := T.nxt_miss (fun j hj hc => by omega)
      rw [E2] at N2
      obtain ⟨f1, f2, f3, f4⟩ := T.nxt_bd hlt
      have HR := Lib.hid hr
      generalize T.nxt ls c = n at *
      have F4 := Lib.hid f4
      have hcn : ∃ ad, A = some ad ∧ w.cell? (ad.add n) = some (.bool ls[n]) := by
        obtain ⟨ad, e, _, hc⟩ := HR.out.bool f2
        exact ⟨ad, e, hc⟩
      obtain ⟨ad, rfl, hcn⟩ := hcn
      have f3' : n < ls.length - 1 → ls[n] = true := fun h => by have := f3 h; rw [List.getElem?_eq_getElem f2] at this; exact Option.some.inj this
      generalize ls[n] = bn at *
      clear hr f3 f4 E2
      have hdis : (n < ls.length - 1 ∧ bn = true) ∨ ls.length - 1 ≤ n := by
        by_cases hh : n < ls.length - 1
        · exact .inl ⟨hh, f3' hh⟩
        · exact .inr (by omega)
      clear f3'
      rcases hdis with ⟨hh, rfl⟩ | hh
      all_goals
        go_enter Try.func4, Try.ntmps4
        go_wp2_with fail
        refine (FY.out _).mono ?_
        rintro e w' ⟨rfl, rfl⟩
        go_wp2_with fail
        refine N1.out.mono ?_
        rintro e w' ⟨rfl, rfl⟩
        go_wp2_with fail
        go_loop [7] (fun i => ∃ k : Nat, c < k ∧ k ≤ n ∧ i = .int .i64 k) (fun i => n - (intOf i).toNat)
        case atStart => exact ⟨c + 1, by omega, by omega, by go_num⟩
        case round =>
          obtain ⟨k, hk1, hk2, rfl⟩ := hrel
          by_cases hkn : k < n
          · have hkl : k < ls.length := by omega
            have hck : w.cell? (ad.add k) = some (.bool false) := by
              obtain ⟨ad', e, _, hc⟩ := HR.out.bool hkl
              obtain rfl : ad = ad' := Option.some.inj e
              have := F4.out k hk1 hkn
              rw [List.getElem?_eq_getElem hkl] at this
              rw [hc, Option.some.inj this]
            go_wp2_with fail
            go_round
            case rel => exact ⟨k + 1, by omega, by omega, by go_num⟩
            case measure => simp [intOf] <;> omega
          · obtain rfl : k = n := by omega
            go_wp2_with fail
            refine N2.out.mono ?_
            rintro e w' ⟨rfl, rfl⟩
            go_wp2_with fail
            refine (awake_any _).mono ?_
            rintro e w' ⟨rfl, hb⟩
            go_wp2_with fail
            go_ret
            exact ⟨rfl, hb⟩
    · clear hr
      go_enter Try.func4, Try.ntmps4
      go_wp2_with fail
      refine (FY.out _).mono ?_
      rintro e w' ⟨rfl, rfl⟩
      go_wp2_with fail
      refine (awake_any _).mono ?_
      rintro e w' ⟨rfl, hb⟩
      go_wp2_with fail
      go_ret
      exact ⟨rfl, hb⟩
  · have FN := Lib.hid (fun w => fine_no A cap ls.length w (by omega) h)
    clear hr hm
    go_enter Try.func4, Try.ntmps4
    go_wp2_with fail
    refine (FN.out _).mono ?_
    rintro e w' ⟨rfl, rfl⟩
    go_wp2_with fail
    refine (awake_any _).mono ?_
    rintro e w' ⟨rfl, hb⟩
    go_wp2_with fail
    go_ret
    exact ⟨rfl, hb⟩
end Go.Proofs.Yteolkaheaaepiaa
