/-
  Layer 9: the law Set. By an AI agent.
-/
import Derived.Test.YteolkaheaaepiaaLaws3
namespace Go.Proofs.Yteolkaheaaepiaa
open Go.RowKit

theorem T.set_in {l : List Bool} {c : Nat} (h : c < l.length) (on : Bool) : T.set l (c : Int) on = l.set c on := by
  unfold T.set; rw [if_pos ⟨by omega, by omega⟩]; rfl

/-- The first k tab stops are cleared. -/
def T.clr (l : List Bool) (k : Nat) : List Bool := List.replicate k false ++ l.drop k
theorem T.length_clr (l : List Bool) (k : Nat) (h : k ≤ l.length) : (T.clr l k).length = l.length := by simp [T.clr]; omega
theorem T.clr_succ (l : List Bool) (k : Nat) (h : k < l.length) : T.set (T.clr l k) (k : Int) false = T.clr l (k + 1) := by
  rw [T.set_in (by rw [T.length_clr l k (by omega)]; exact h)]
  unfold T.clr
  rw [List.drop_eq_getElem_cons h, List.set_append_right _ _ (by simp), List.length_replicate, Nat.sub_self, List.set_cons_zero, List.replicate_succ', List.append_assoc]
  rfl
theorem T.clr_nxt (l : List Bool) : T.nxt (T.clr l l.length) 0 = l.length - 1 := by
  have e : T.clr l l.length = List.replicate l.length false := by simp [T.clr]
  rw [e, T.nxt_miss]
  · simp
  · intro j hj _; simp at hj; simp [hj]
theorem T.clr_pv (l : List Bool) (k : Nat) (h : k ≤ l.length) : T.pv (T.clr l l.length) k = 0 := by
  have e : T.clr l l.length = List.replicate l.length false := by simp [T.clr]
  rw [e, T.pv_skip (k := 0) _ (by omega) (fun j _ hj => by simp [List.getD_eq_getElem?_getD, List.getElem?_replicate]; split <;> rfl)]
  rfl

theorem lset_any (A : Option Addr) (cap : Nat) (ls : List Bool) (ci : Int) (on : Bool) (w : World) (hr : Reads w w.heap.size 1 A ls.length (ls.map Value.bool)) (hm : ls.length ≤ 140737488351232) (hc0 : 0 ≤ ci) (hc1 : ci ≤ 255) :
    Calls Try.prog 8 #[.slice A ls.length cap, .int .u8 ci, .bool on] w fun e w' => e = .returned (.bool true) ∧ Below w.heap.size w w' := by
  obtain ⟨c, rfl⟩ := Int.eq_ofNat_of_zero_le hc0
  by_cases h : ls.length ≤ 140
  · have h1 : ls.length ≤ 1000 := by omega
    have FY := Lib.hid (fun w => fine_yes A cap ls.length w h)
    by_cases hlt : c < ls.length
    · have S1 := set_any A cap _ ls c on w hr (Nat.le_refl _) h1
      have hml : (ls.set c on).length = ls.length := by simp
      rw [T.set_in hlt] at S1
      unfold OwnB at S1
      have S1 := Lib.hid S1
      obtain ⟨ad, rfl, hlo, hc⟩ := hr.bool hlt
      have HR := Lib.hid hr
      have HLC := Lib.hid (rfl : ls[c] = ls[c])
      go_enter Try.func8, Try.ntmps8
      go_wp2_with fail
      refine (FY.out _).mono ?_
      rintro e w' ⟨rfl, rfl⟩
      go_wp2_with fail
      refine S1.out.mono ?_
      rintro e w1 ⟨v1, rfl, o1, b1⟩
      rw [hml] at o1
      obtain ⟨A1, c1, rfl, r1⟩ := own_reads o1
      have r1' : Reads w1 w1.heap.size 1 A1 (ls.set c on).length ((ls.set c on).map Value.bool) := by rw [hml]; exact r1
      obtain ⟨ad1, rfl, _, hc1'⟩ := r1'.bool (k := c) (by rw [hml]; exact hlt)
      rw [List.getElem_set_self] at hc1'
      have hcl : w1.cell? (ad.add c) = some (.bool ls[c]) := (b1.cell (by rw [block_of_add]; exact hlo)).trans hc
      have hon : (on != on) = false := by simp
      have S2 : Hid (∀ w', Below w1.heap.size w1 w' → Calls Try.prog 19 #[.slice (some ad1) ls.length c1, .int .i64 c, .bool on] w' fun e w'' => OwnB w' w'' e (ls.set c on)) := Lib.hid (fun w' hb' => by
        have hh := set_any (some ad1) c1 _ (ls.set c on) c on w' (r1'.below hb' (Nat.le_refl _)) hb'.size (by rw [hml]; exact h1)
        rw [T.set_in (by rw [hml]; exact hlt), List.set_set, hml] at hh
        exact hh)
      have S3 : Hid (∀ w', Below w1.heap.size w1 w' → Calls Try.prog 19 #[.slice (some ad1) ls.length c1, .int .i64 c, .bool ls[c]] w' fun e w'' => OwnB w' w'' e ls) := Lib.hid (fun w' hb' => by
        have hh := set_any (some ad1) c1 _ (ls.set c on) c ls[c] w' (r1'.below hb' (Nat.le_refl _)) hb'.size (by rw [hml]; exact h1)
        rw [T.set_in (by rw [hml]; exact hlt), List.set_set, List.set_getElem_self, hml] at hh
        exact hh)
      have R1 := Lib.hid r1'
      clear o1 r1 r1' hr hc
      generalize ls[c] = b at *
      go_wp2_with fail
      refine (S2.out _ (Below.refl _ _)).mono ?_
      rintro e w2 ⟨v2, rfl, o2, b2⟩
      have c2 := b1.trans (b2.mono b1.size)
      have Q : Hid (Calls Try.prog 17 #[v2, .slice (some ad1) ls.length c1] w2 fun e w' => e = .returned (.bool true) ∧ Below w2.heap.size w2 w') := Lib.hid (by
        obtain ⟨A2, c2, hv, r2⟩ := own_reads o2
        rw [hv]
        have hh := same_own (c := c2) (c2 := c1) w2 r2 (R1.out.below b2 (Nat.le_refl _)) (by rw [hml]; exact h1)
        rw [hml] at hh ⊢
        exact hh)
      clear o2
      have hcl2 : w2.cell? (ad.add c) = some (.bool b) := (b2.cell (by rw [block_of_add]; exact Nat.lt_of_lt_of_le hlo b1.size)).trans hcl
      clear hcl
      go_wp2_with fail
      refine Q.out.mono ?_
      rintro e w3 ⟨rfl, b3⟩
      have b13 := b2.trans (b3.mono b2.size)
      have c3 := b1.trans (b13.mono b1.size)
      have hcl3 : w3.cell? (ad.add c) = some (.bool b) := (b3.cell (by rw [block_of_add]; exact Nat.lt_of_lt_of_le hlo c2.size)).trans hcl2
      clear hcl2 Q
      go_wp2_with fail
      refine (S3.out _ b13).mono ?_
      rintro e w4 ⟨v4, rfl, o4, b4⟩
      have c4 := c3.trans (b4.mono c3.size)
      have Q : Hid (Calls Try.prog 17 #[v4, .slice (some ad) ls.length cap] w4 fun e w' => e = .returned (.bool true) ∧ Below w4.heap.size w4 w') := Lib.hid (by
        obtain ⟨A2, c2, hv, r2⟩ := own_reads o4
        rw [hv]
        exact same_own (c := c2) (c2 := cap) w4 r2 (HR.out.below c4 (Nat.le_refl _)) h1)
      clear o4
      go_wp2_with fail
      refine Q.out.mono ?_
      rintro e w5 ⟨rfl, b5⟩
      have c5 := c4.trans (b5.mono c4.size)
      have HR5 := HR.out.below c5 (Nat.le_refl _)
      have HR5' := Lib.hid (HR5.more c5.size)
      clear Q b5 b4 b3 b2 b1 hcl3 hc1' S2 S3 R1 HR5 b13 c4 c3 c2
      go_wp2_with fail
      go_loopw [9, 10, 65] (fun v _ i wr => ∃ k : Nat, k ≤ ls.length ∧ i = .int .i64 k ∧ (∃ A' c', v = .slice A' ls.length c' ∧ Reads wr wr.heap.size 1 A' ls.length ((T.clr ls k).map Value.bool)) ∧ Below w.heap.size w wr) (fun _ _ i _ => ls.length - (intOf i).toNat)
      case atStart => exact ⟨0, Nat.zero_le _, rfl, ⟨_, _, rfl, by simpa [T.clr] using HR5'.out⟩, c5⟩
      case round =>
        clear c5 HR5' HR
        obtain ⟨k, hk, rfl, ⟨A', c', rfl, hrd⟩, hb⟩ := hrel
        by_cases hkn : k < ls.length
        · have hlc := T.length_clr ls k hk
          have S : Hid (Calls Try.prog 19 #[.slice A' ls.length c', .int .i64 k, .bool false] wr fun e w'' => OwnB wr w'' e (T.clr ls (k + 1))) := Lib.hid (by
            have hh := set_any A' c' _ (T.clr ls k) k false wr (by rw [hlc]; exact hrd) (Nat.le_refl _) (by rw [hlc]; exact h1)
            rw [T.clr_succ ls k hkn, hlc] at hh
            exact hh)
          have hlc2 := T.length_clr ls (k + 1) hkn
          clear hrd hlc
          go_wp2_with fail
          refine S.out.mono ?_
          rintro e w6 ⟨v6, rfl, o6, b6⟩
          have c6 := hb.trans (b6.mono hb.size)
          rw [hlc2] at o6
          have r6 := own_reads o6
          clear o6 b6
          go_wp2_with fail
          go_roundw
          case rel => exact ⟨k + 1, hkn, by go_num, r6, c6⟩
          case measure => simp [intOf] <;> omega
        · obtain rfl : k = ls.length := by omega
          have hlc := T.length_clr ls ls.length hk
          have N : Hid (Calls Try.prog 12 #[.slice A' ls.length c', .int .i64 0] wr fun e w'' => e = .returned (.int .i64 ((ls.length - 1 : Nat) : Int)) ∧ wr = w'') := Lib.hid (by
            have hh := next_any A' c' _ (T.clr ls ls.length) 0 wr (by rw [hlc]; exact hrd) (by rw [hlc]; exact h1)
            rw [T.clr_nxt, hlc] at hh
            exact hh)
          have Pz : Hid (Calls Try.prog 14 #[.slice A' ls.length c', .int .i64 ((ls.length : Int) - 1)] wr fun e w'' => e = .returned (.int .i64 0) ∧ wr = w'') := Lib.hid (by
            have hh := previous_any A' c' _ (T.clr ls ls.length) ((ls.length : Int) - 1) wr (by rw [hlc]; exact hrd) (by rw [hlc]; exact h1)
            rw [T.clr_pv _ _ (by unfold T.upto; omega), hlc] at hh
            exact hh)
          clear hrd hlc
          go_wp2_with fail
          refine N.out.mono ?_
          rintro e w6 ⟨rfl, rfl⟩
          go_wp2_with fail
          refine Pz.out.mono ?_
          rintro e w6 ⟨rfl, rfl⟩
          go_wp2_with fail
          refine (awake_any _).mono ?_
          rintro e w11 ⟨rfl, b11⟩
          go_wp2_with fail
          go_ret
          exact ⟨rfl, hb.trans (b11.mono hb.size)⟩
    · clear hr
      go_enter Try.func8, Try.ntmps8
      go_wp2_with fail
      refine (FY.out _).mono ?_
      rintro e w' ⟨rfl, rfl⟩
      go_wp2_with fail
      refine (awake_any _).mono ?_
      rintro e w' ⟨rfl, hb⟩
      go_wp2_with fail
      go_ret
      exact ⟨rfl, hb⟩
  · have FN := Lib.hid (fun w => fine_no A cap ls.length w (by omega) h)
    clear hr hm
    go_enter Try.func8, Try.ntmps8
    go_wp2_with fail
    refine (FN.out _).mono ?_
    rintro e w' ⟨rfl, rfl⟩
    go_wp2_with fail
    refine (awake_any _).mono ?_
    rintro e w' ⟨rfl, hb⟩
    go_wp2_with fail
    go_ret
    exact ⟨rfl, hb⟩
end Go.Proofs.Yteolkaheaaepiaa
