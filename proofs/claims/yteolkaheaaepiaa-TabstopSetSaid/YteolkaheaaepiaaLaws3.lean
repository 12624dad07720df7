/-
  Layer 9: the laws Resize and Edits. By an AI agent.
-/
import Derived.Test.YteolkaheaaepiaaLaws2
namespace Go.Proofs.Yteolkaheaaepiaa
open Go.RowKit

theorem T.lim_in {k : Nat} (h : k ≤ 1000) : T.lim (k : Int) = k := by unfold T.lim; omega
theorem T.resize_get (ls : List Bool) (x : Int) (k : Nat) (h : k < (T.resize ls x).length) : (T.resize ls x)[k] = ls.getD k (k % 8 == 0) := by simp [T.resize]

/-- Two rows of the call's own that read alike are the same. -/
theorem same_own (w : World) {A A2 : Option Addr} {c c2 B B2 : Nat} {l : List Bool} (hr : Reads w B 1 A l.length (l.map Value.bool)) (hr2 : Reads w B2 1 A2 l.length (l.map Value.bool)) (hl : l.length ≤ 1000) :
    Calls Try.prog 17 #[.slice A l.length c, .slice A2 l.length c2] w fun e w' => e = .returned (.bool true) ∧ Below w.heap.size w w' :=
  (same_any A c B l A2 c2 B2 l w hr hr2 hl hl).mono fun e w' ⟨he, n, hw⟩ => ⟨by rw [he]; simp, by rw [hw]; exact below_drewN (Below.refl _ _) n⟩

theorem lresize_any (A : Option Addr) (cap : Nat) (ls : List Bool) (ci : Int) (w : World) (hr : Reads w w.heap.size 1 A ls.length (ls.map Value.bool)) (hm : ls.length ≤ 140737488351232) (hc0 : 0 ≤ ci) (hc1 : ci ≤ 255) :
    Calls Try.prog 7 #[.slice A ls.length cap, .int .u8 ci] w fun e w' => e = .returned (.bool true) ∧ Below w.heap.size w w' := by
  obtain ⟨x, hx, hx1⟩ : ∃ x : Nat, ci % 141 = (x : Int) ∧ x ≤ 140 := ⟨(ci % 141).toNat, by omega, by omega⟩
  by_cases h : ls.length ≤ 140
  · have h1 : ls.length ≤ 1000 := by omega
    have FY := Lib.hid (fun w => fine_yes A cap ls.length w h)
    have R1 := Lib.hid (resize_any A cap _ ls x w hr (Nat.le_refl _))
    have hlen : (T.resize ls x).length = x := by simp [T.resize, T.lim_in (show x ≤ 1000 by omega)]
    have hlen2 : (T.new x).length = x := by simp [T.new, T.lim_in (show x ≤ 1000 by omega)]
    have hget := fun k hk => T.resize_get ls x k hk
    have HR := Lib.hid hr
    clear hr
    go_enter Try.func7, Try.ntmps7
    go_wp2_with fail
    refine (FY.out _).mono ?_
    rintro e w' ⟨rfl, rfl⟩
    go_wp2_with fail
    refine R1.out.mono ?_
    rintro e w1 ⟨v, rfl, hown, hb⟩
    obtain ⟨A1, c1, hv, hrd⟩ := own_reads hown
    have HG : Hid (∀ k, k < x → ∃ ad b, A1 = some ad ∧ w1.cell? (ad.add k) = some (.bool b) ∧ ls.getD k (k % 8 == 0) = b) := Lib.hid (fun k hk => by
      obtain ⟨ad, e, _, hc⟩ := hrd.bool (k := k) (by rw [hlen]; exact hk)
      exact ⟨ad, _, e, hc, (hget k _).symm⟩)
    rw [hlen] at hv
    subst hv
    clear hown hrd hget
    go_wp2_with fail
    go_loop [7, 8, 25] (fun _ _ i => ∃ k : Nat, k ≤ x ∧ i = .int .i64 k) (fun _ _ i => x - (intOf i).toNat)
    case atStart => exact ⟨0, by omega, by go_num⟩
    case round =>
      obtain ⟨k, hk, rfl⟩ := hrel
      by_cases hkx : k < x
      · obtain ⟨ad1, b, rfl, hc1, hb1⟩ := HG.out k hkx
        by_cases hin : k < ls.length
        · obtain ⟨ad, rfl, hlo, hc0⟩ := HR.out.bool hin
          have hc : w1.cell? (ad.add k) = some (.bool b) := by
            rw [hb.cell (by rw [block_of_add]; omega), hc0, ← hb1, List.getD_eq_getElem?_getD, List.getElem?_eq_getElem hin]; rfl
          clear hb1 hc0
          have hbb : (b != b) = false := by simp
          go_wp2
          go_round
          case rel => exact ⟨k + 1, by omega, by go_num⟩
          case measure => simp [intOf] <;> omega
        · have hbi : (((k : Int) % 8 == 0) = b) := by
            rw [List.getD_eq_getElem?_getD, List.getElem?_eq_none (by omega)] at hb1
            rw [← hb1]
            by_cases h : k % 8 = 0
            · rw [show (none : Option Bool).getD (k % 8 == 0) = (k % 8 == 0) from rfl, beq_iff_eq.2 h, beq_iff_eq]; omega
            · rw [show (none : Option Bool).getD (k % 8 == 0) = (k % 8 == 0) from rfl, beq_eq_false_iff_ne.2 h, beq_eq_false_iff_ne]; omega
          clear hb1
          have hbb : (b != b) = false := by simp
          go_wp2
          go_round
          case rel => exact ⟨k + 1, by omega, by go_num⟩
          case measure => simp [intOf] <;> omega
      · obtain rfl : k = x := by omega
        go_wp2_with fail
        refine (resize_any none 0 0 [] k w1 Reads.none_ (Nat.zero_le _)).mono ?_
        rintro e w2 ⟨v2, rfl, hown2, hb2⟩
        rw [T.resize_nil] at hown2
        have hb3 := hb.trans (hb2.mono hb.size)
        go_wp2_with fail
        refine (new_any k w2).mono ?_
        rintro e w3 ⟨v3, rfl, hown3, hb4⟩
        have hb5 := hb3.trans (hb4.mono hb3.size)
        obtain ⟨A2, c2, hv2, hrd2⟩ := own_reads hown2
        obtain ⟨A3, c3, hv3, hrd3⟩ := own_reads hown3
        have HS : Hid (Calls Try.prog 17 #[v2, v3] w3 fun e w' => e = .returned (.bool true) ∧ Below w3.heap.size w3 w') := Lib.hid (by
          rw [hv2, hv3]
          exact same_own w3 (hrd2.below hb4 (Nat.le_refl _)) hrd3 (by rw [hlen2]; omega))
        clear hown2 hown3 hv2 hv3 hrd2 hrd3
        go_wp2_with fail
        refine HS.out.mono ?_
        rintro e w4 ⟨rfl, hb6⟩
        have hb7 := hb5.trans (hb6.mono hb5.size)
        go_wp2_with fail
        refine (awake_any _).mono ?_
        rintro e w' ⟨rfl, hb8⟩
        go_wp2_with fail
        go_ret
        exact ⟨rfl, hb7.trans (hb8.mono hb7.size)⟩
  · have FN := Lib.hid (fun w => fine_no A cap ls.length w (by omega) h)
    clear hr hm
    go_enter Try.func7, Try.ntmps7
    go_wp2_with fail
    refine (FN.out _).mono ?_
    rintro e w' ⟨rfl, rfl⟩
    go_wp2_with fail
    refine (awake_any _).mono ?_
    rintro e w' ⟨rfl, hb⟩
    go_wp2_with fail
    go_ret
    exact ⟨rfl, hb⟩

/-- Two slices of the call's own, made one after the other, that read alike. -/
theorem same_owned {w0 w1 w2 : World} {l : List Bool} {v1 v2 : Value} {b1 b2 : Nat} (h1 : w1.ownsRow b1 4 1 v1 l.length (l.map Value.bool)) (hb : Below w1.heap.size w1 w2) (h2 : w2.ownsRow b2 4 1 v2 l.length (l.map Value.bool)) (hl : l.length ≤ 1000) :
    Calls Try.prog 17 #[v1, v2] w2 fun e w' => e = .returned (.bool true) ∧ Below w2.heap.size w2 w' := by
  obtain ⟨A1, c1, rfl, r1⟩ := own_reads h1
  obtain ⟨A2, c2, rfl, r2⟩ := own_reads h2
  exact same_own w2 (r1.below hb (Nat.le_refl _)) r2 hl

theorem edits_any (A : Option Addr) (cap : Nat) (ls : List Bool) (col width : Int) (on : Bool) (w : World) (hr : Reads w w.heap.size 1 A ls.length (ls.map Value.bool)) (hm : ls.length ≤ 9223372036854775807) :
    Calls Try.prog 9 #[.agg #[.slice A ls.length cap, .int .i64 col, .int .i64 width, .bool on]] w fun e w' => e = .returned (.bool true) ∧ Below w.heap.size w w' := by
  have hb0 : Below w.heap.size w (w.alloc (.cells #[.slice A ls.length cap, .int .i64 col, .int .i64 width, .bool on] 34)) := (Below.refl _ _).alloc (Nat.le_refl _) _
  have HR := Lib.hid hr
  have HB := Lib.hid hb0
  clear hr hb0
  by_cases h : ls.length ≤ 140
  · have h1 : ls.length ≤ 1000 := by omega
    have FY := Lib.hid (fun w => fine_yes A cap ls.length w h)
    by_cases hw : width ≤ 140
    · have hnl : (T.new width).length ≤ 1000 := by have := T.lim_le width; simp [T.new]; omega
      have hsl : (T.set ls col on).length ≤ 1000 := by rw [T.length_set]; omega
      have hrl : (T.resize ls width).length ≤ 1000 := by have := T.lim_le width; simp [T.resize]; omega
      have L := Lib.hid (And.intro hnl (And.intro hsl hrl))
      clear hnl hsl hrl
      go_enter Try.func9, Try.ntmps9
      go_wp2_with fail
      go_quiet (fail)
      generalize hw1 : World.drewN _ _ = w1
      have hb1 : Below w.heap.size w w1 := by rw [← hw1]; exact below_drewN HB.out _
      clear hw1
      go_wp2_with fail
      refine (FY.out _).mono ?_
      rintro e w' ⟨rfl, rfl⟩
      go_wp2_with fail
      refine (new_any _ _).mono ?_
      rintro e w2 ⟨v2, rfl, o2, b2⟩
      have c2 := hb1.trans (b2.mono hb1.size)
      go_wp2_with fail
      refine (refnew_any _ _).mono ?_
      rintro e w3 ⟨v3, rfl, o3, b3⟩
      have c3 := c2.trans (b3.mono c2.size)
      have S := Lib.hid (same_owned (w0 := w) o2 b3 o3 L.out.1)
      clear o2 o3 b2 b3
      go_wp2_with fail
      refine S.out.mono ?_
      rintro e w4 ⟨rfl, b4⟩
      have c4 := c3.trans (b4.mono c3.size)
      clear S b4
      go_wp2_with fail
      refine (set_any A cap _ ls col on w4 (HR.out.below c4 (Nat.le_refl _)) c4.size h1).mono ?_
      rintro e w5 ⟨v5, rfl, o5, b5⟩
      have c5 := c4.trans (b5.mono c4.size)
      go_wp2_with fail
      refine (refset_any A cap _ ls col on w5 (HR.out.below c5 (Nat.le_refl _)) c5.size h1).mono ?_
      rintro e w6 ⟨v6, rfl, o6, b6⟩
      have c6 := c5.trans (b6.mono c5.size)
      have S := Lib.hid (same_owned (w0 := w) o5 b6 o6 L.out.2.1)
      clear o5 o6 b5 b6
      go_wp2_with fail
      refine S.out.mono ?_
      rintro e w7 ⟨rfl, b7⟩
      have c7 := c6.trans (b7.mono c6.size)
      clear S b7
      go_wp2_with fail
      refine (resize_any A cap _ ls width w7 (HR.out.below c7 (Nat.le_refl _)) c7.size).mono ?_
      rintro e w8 ⟨v8, rfl, o8, b8⟩
      have c8 := c7.trans (b8.mono c7.size)
      go_wp2_with fail
      refine (refresize_any A cap _ ls width w8 (HR.out.below c8 (Nat.le_refl _)) c8.size h1).mono ?_
      rintro e w9 ⟨v9, rfl, o9, b9⟩
      have c9 := c8.trans (b9.mono c8.size)
      have S := Lib.hid (same_owned (w0 := w) o8 b9 o9 L.out.2.2)
      clear o8 o9 b8 b9
      go_wp2_with fail
      refine S.out.mono ?_
      rintro e w10 ⟨rfl, b10⟩
      have c10 := c9.trans (b10.mono c9.size)
      clear S b10
      go_wp2_with fail
      refine (awake_any _).mono ?_
      rintro e w11 ⟨rfl, b11⟩
      go_wp2_with fail
      go_ret
      exact ⟨rfl, c10.trans (b11.mono c10.size)⟩
    · go_enter Try.func9, Try.ntmps9
      go_wp2_with fail
      go_quiet (fail)
      generalize hw1 : World.drewN _ _ = w1
      have hb1 : Below w.heap.size w w1 := by rw [← hw1]; exact below_drewN HB.out _
      clear hw1
      go_wp2_with fail
      refine (FY.out _).mono ?_
      rintro e w' ⟨rfl, rfl⟩
      go_wp2_with fail
      refine (awake_any _).mono ?_
      rintro e w11 ⟨rfl, b11⟩
      go_wp2_with fail
      go_ret
      exact ⟨rfl, hb1.trans (b11.mono hb1.size)⟩
  · have FN := Lib.hid (fun w => fine_no A cap ls.length w (by omega) h)
    clear hm
    go_enter Try.func9, Try.ntmps9
    go_wp2_with fail
    go_quiet (fail)
    generalize hw1 : World.drewN _ _ = w1
    have hb1 : Below w.heap.size w w1 := by rw [← hw1]; exact below_drewN HB.out _
    clear hw1
    go_wp2_with fail
    refine (FN.out _).mono ?_
    rintro e w' ⟨rfl, rfl⟩
    go_wp2_with fail
    refine (awake_any _).mono ?_
    rintro e w11 ⟨rfl, b11⟩
    go_wp2_with fail
    go_ret
    exact ⟨rfl, hb1.trans (b11.mono hb1.size)⟩
end Go.Proofs.Yteolkaheaaepiaa
