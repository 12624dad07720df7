/-
  The walks of layer 9, the last: Resize, Set, the reference's Set, and the law's own example. By an AI agent.
-/
import Derived.Test.YteolkaheaaepiaaWalks2
import Derived.Test.YteolkaheaaepiaaCopy
namespace Go.Proofs.Yteolkaheaaepiaa
open Go.RowKit

theorem T.resize_copy (ls : List Bool) (x : Int) : (ls.map Value.bool).take (T.new x).length ++ ((T.new x).map Value.bool).drop ls.length = (T.resize ls x).map Value.bool := by
  rw [← List.map_take, ← List.map_drop, ← List.map_append]
  congr 1
  have hl : (T.new x).length = T.lim x := by simp [T.new]
  apply List.ext_getElem?
  intro i
  rw [hl]
  by_cases hi : i < T.lim x
  · by_cases hi2 : i < ls.length
    · rw [List.getElem?_append_left (by simp; omega), List.getElem?_take, if_pos hi]
      simp [T.resize, hi, List.getD_eq_getElem?_getD, List.getElem?_eq_getElem hi2]
    · rw [List.getElem?_append_right (by simp; omega), List.getElem?_drop]
      have e : ls.length + (i - (ls.take (T.lim x)).length) = i := by simp; omega
      rw [e]
      simp [T.resize, T.new, hi, List.getD_eq_getElem?_getD, List.getElem?_eq_none (show ls.length ≤ i by omega)]
  · rw [List.getElem?_eq_none (by simp [T.new]; omega), List.getElem?_eq_none (by simp [T.resize]; omega)]

theorem bool_size : (Try.prog.info? 4).map (·.size) = some 1 := by kernel_rfl

theorem resize_any (A : Option Addr) (cap B : Nat) (ls : List Bool) (x : Int) (w : World) (hr : Reads w B 1 A ls.length (ls.map Value.bool)) (hB : B ≤ w.heap.size) :
    Calls Try.prog 16 #[.slice A ls.length cap, .int .i64 x] w fun e w' => OwnB w w' e (T.resize ls x) := by
  have HR := Lib.hid hr
  clear hr
  have HE := Lib.hid (T.resize_copy ls x)
  have HLN : Hid ((T.new x).length = (T.resize ls x).length) := Lib.hid (by simp [T.new, T.resize])
  go_enter Try.func16, Try.ntmps16
  go_wp2_with fail
  refine (new_any x _).mono ?_
  rintro e w1 ⟨v, rfl, hown, hb⟩
  have HR1 := HR.out.below hb hB
  have ho := bools_one ls
  go_wp2_with (refine wpList_copy_any rfl (.tmp 8) (.tmp 9) 22 22 rfl 4 Try.underlying22 bool_size w.heap.size v _ _ rfl hown B A ls.length cap _ rfl HR1 ho ?_; intro w2 hown2 hb2)
  go_ret
  rw [HE.out, HLN.out] at hown2
  exact ⟨_, rfl, hown2, hb.trans (hb2.mono (Nat.le_refl _))⟩

theorem set_any (A : Option Addr) (cap B : Nat) (ls : List Bool) (c : Int) (on : Bool) (w : World) (hr : Reads w B 1 A ls.length (ls.map Value.bool)) (hB : B ≤ w.heap.size) (hl : ls.length ≤ 1000) :
    Calls Try.prog 19 #[.slice A ls.length cap, .int .i64 c, .bool on] w fun e w' => OwnB w w' e (T.set ls c on) := by
  have HC := Lib.hid (clone_any A cap B ls w hr hB hl)
  clear hr
  by_cases hc : 0 ≤ c ∧ c < ls.length
  · obtain ⟨k, rfl⟩ := Int.eq_ofNat_of_zero_le hc.1
    have hk : k < ls.length := by omega
    have HS : Hid (T.set ls k on = ls.set k on) := Lib.hid (by unfold T.set; rw [if_pos hc]; rfl)
    clear hc
    go_enter Try.func19, Try.ntmps19
    go_wp2_with fail
    refine HC.out.mono ?_
    rintro e w1 ⟨v, rfl, hown, hb⟩
    obtain ⟨g, cp, hv, hg, _⟩ := hown.form (by omega)
    subst hv
    have hcell := hown.cellAt k (by omega)
    rw [List.getElem?_map, List.getElem?_eq_getElem hk] at hcell
    have hfz := hown.frozenAt k
    have hst := (hown.stored k (.bool on)).1
    rw [← List.map_set] at hst
    have HST := Lib.hid hst
    obtain ⟨b, hb0⟩ : ∃ b, b = ls[k] := ⟨_, rfl⟩
    have hcell2 : w1.cell? ⟨g, k, none⟩ = some (.bool b) := by rw [hb0]; exact hcell
    clear hown hst hcell hb0
    go_wp2
    go_ret
    refine ⟨_, rfl, ?_, hb.setCell hg _⟩
    have h := HST.out
    rw [HS.out]
    simpa using h
  · have HS : Hid (T.set ls c on = ls) := Lib.hid (by unfold T.set; rw [if_neg hc])
    have hfin : ∀ (v : Value) (w1 : World), w1.ownsRow w.heap.size 4 1 v ls.length (ls.map Value.bool) → w1.ownsRow w.heap.size 4 1 v (T.set ls c on).length ((T.set ls c on).map Value.bool) := fun v w1 h => by rw [HS.out]; exact h
    have HF := Lib.hid hfin
    clear hfin
    by_cases h0 : 0 ≤ c
    · have h1 : (ls.length : Int) ≤ c := by omega
      clear hc
      go_enter Try.func19, Try.ntmps19
      go_wp2_with fail
      refine HC.out.mono ?_
      rintro e w1 ⟨v, rfl, hown, hb⟩
      obtain ⟨A', c', hv, _⟩ := own_reads hown
      subst hv
      have hown' := HF.out _ _ hown
      clear hown
      go_wp2
      go_ret
      exact ⟨_, rfl, hown', hb⟩
    · have h1 : c < 0 := by omega
      clear hc
      go_enter Try.func19, Try.ntmps19
      go_wp2_with fail
      refine HC.out.mono ?_
      rintro e w1 ⟨v, rfl, hown, hb⟩
      obtain ⟨A', c', hv, _⟩ := own_reads hown
      subst hv
      have hown' := HF.out _ _ hown
      clear hown
      go_wp2
      go_ret
      exact ⟨_, rfl, hown', hb⟩

theorem refset_any (A : Option Addr) (cap B : Nat) (ls : List Bool) (c : Int) (on : Bool) (w : World) (hr : Reads w B 1 A ls.length (ls.map Value.bool)) (hB : B ≤ w.heap.size) (hl : ls.length ≤ 1000) :
    Calls Try.prog 21 #[.slice A ls.length cap, .int .i64 c, .bool on] w fun e w' => OwnB w w' e (T.set ls c on) := by
  have HR1 := (hr.alloc hB (.cells #[] 4))
  have own0 := World.ownsRow_lit (base := w.heap.size) (e := 4) (size := 1) w #[] 0 (Nat.le_refl _) (by decide) rfl
  have hb0 : Below w.heap.size w (w.alloc (.cells #[] 4)) := (Below.refl _ _).alloc (Nat.le_refl _) _
  obtain ⟨i0, hi0, hz0, hz1, hz2⟩ := info_parts bool_info
  have ho := bools_one ls
  clear hr
  by_cases hc : 0 ≤ c ∧ c < ls.length
  · obtain ⟨k, rfl⟩ := Int.eq_ofNat_of_zero_le hc.1
    have hk : k < ls.length := by omega
    have HS : Hid (T.set ls k on = ls.set k on) := Lib.hid (by unfold T.set; rw [if_pos hc]; rfl)
    clear hc
    go_enter Try.func21, Try.ntmps21
    go_wp2_with (at_builtin; refine wpList_append_any _ rfl (.tmp 8) (.tmp 9) _ rfl w.heap.size 4 i0 _ 1 1 Try.underlying22 hi0 hz0 hz1 hz2 rfl (by omega) (.slice (some ⟨w.heap.size, 0, none⟩) 0 0) 0 [] rfl own0 B A ls.length cap _ rfl HR1 ho (by simp only [maxLen]; omega) (by omega) hb0.size ?_
                 intro v w1 hown hg1 hat1
                 have hb := hb0.grown hg1 hb0.size (own_below own0 (Nat.le_refl _))
                 rw [Nat.zero_add, List.nil_append] at hown
                 clear hg1 hat1
                 obtain ⟨g, cp, hv, hg, _⟩ := hown.form (by omega)
                 subst hv
                 have hcell := hown.cellAt k (by omega)
                 rw [List.getElem?_map, List.getElem?_eq_getElem hk] at hcell
                 have hfz := hown.frozenAt k
                 have hst := (hown.stored k (.bool on)).1
                 rw [← List.map_set] at hst
                 have HST := Lib.hid hst
                 have hcell2 : w1.cell? ⟨g, k, none⟩ = some (.bool ls[k]) := hcell
                 clear hown hst hcell)
    go_ret
    refine ⟨_, rfl, ?_, hb.setCell hg _⟩
    have h := HST.out
    rw [HS.out]
    simpa using h
  · have HS : Hid (T.set ls c on = ls) := Lib.hid (by unfold T.set; rw [if_neg hc])
    have hfin : ∀ (v : Value) (w1 : World), w1.ownsRow w.heap.size 4 1 v ls.length (ls.map Value.bool) → w1.ownsRow w.heap.size 4 1 v (T.set ls c on).length ((T.set ls c on).map Value.bool) := fun v w1 h => by rw [HS.out]; exact h
    have HF := Lib.hid hfin
    clear hfin
    have hcc : c < 0 ∨ (0 ≤ c ∧ (ls.length : Int) ≤ c) := by omega
    clear hc
    rcases hcc with h1 | ⟨h0, h1⟩
    all_goals
      go_enter Try.func21, Try.ntmps21
      go_wp2_with (at_builtin; refine wpList_append_any _ rfl (.tmp 8) (.tmp 9) _ rfl w.heap.size 4 i0 _ 1 1 Try.underlying22 hi0 hz0 hz1 hz2 rfl (by omega) (.slice (some ⟨w.heap.size, 0, none⟩) 0 0) 0 [] rfl own0 B A ls.length cap _ rfl HR1 ho (by simp only [maxLen]; omega) (by omega) hb0.size ?_
                   intro v w1 hown hg1 hat1
                   have hb := hb0.grown hg1 hb0.size (own_below own0 (Nat.le_refl _))
                   rw [Nat.zero_add, List.nil_append] at hown
                   clear hg1 hat1
                   obtain ⟨A', c', hv, _⟩ := own_reads hown
                   subst hv
                   have hown' := HF.out _ _ hown
                   clear hown)
      go_ret
      exact ⟨_, rfl, hown', hb⟩

/-! ### The law's own example -/
theorem T.new20 : T.new 20 = [true, false, false, false, false, false, false, false, true, false, false, false, false, false, false, false, true, false, false, false] := by decide

theorem awake_any (w : World) : Calls Try.prog 11 #[] w fun e w' => e = .returned (.bool true) ∧ Below w.heap.size w w' := by
  have n0 : T.nxt (T.new 20) 0 = 8 := by decide
  have n8 : T.nxt (T.new 20) 8 = 16 := by decide
  have n16 : T.nxt (T.new 20) 16 = 19 := by decide
  have p16 : T.pv (T.new 20) (T.upto (T.new 20).length 16) = 8 := by decide
  have hlen : (T.new 20).length = 20 := by decide
  go_enter Try.func11, Try.ntmps11
  go_wp2_with fail
  refine (new_any 20 _).mono ?_
  rintro e w1 ⟨v, rfl, hown, hb⟩
  obtain ⟨A, c, hv, hrd⟩ := own_reads hown
  subst hv
  have N0 : Hid (∀ w', Below w1.heap.size w1 w' → Calls Try.prog 12 #[.slice A 20 c, .int .i64 0] w' fun e w'' => e = .returned (.int .i64 8) ∧ w' = w'') := Lib.hid (fun w' hb' => by
    have h := next_any A c _ (T.new 20) 0 w' (hrd.below hb' (Nat.le_refl _)) (by rw [hlen]; decide)
    rw [n0, hlen] at h; exact h)
  have N8 : Hid (∀ w', Below w1.heap.size w1 w' → Calls Try.prog 12 #[.slice A 20 c, .int .i64 8] w' fun e w'' => e = .returned (.int .i64 16) ∧ w' = w'') := Lib.hid (fun w' hb' => by
    have h := next_any A c _ (T.new 20) 8 w' (hrd.below hb' (Nat.le_refl _)) (by rw [hlen]; decide)
    rw [n8, hlen] at h; exact h)
  have N16 : Hid (∀ w', Below w1.heap.size w1 w' → Calls Try.prog 12 #[.slice A 20 c, .int .i64 16] w' fun e w'' => e = .returned (.int .i64 19) ∧ w' = w'') := Lib.hid (fun w' hb' => by
    have h := next_any A c _ (T.new 20) 16 w' (hrd.below hb' (Nat.le_refl _)) (by rw [hlen]; decide)
    rw [n16, hlen] at h; exact h)
  have P16 : Hid (∀ w', Below w1.heap.size w1 w' → Calls Try.prog 14 #[.slice A 20 c, .int .i64 16] w' fun e w'' => e = .returned (.int .i64 8) ∧ w' = w'') := Lib.hid (fun w' hb' => by
    have h := previous_any A c _ (T.new 20) 16 w' (hrd.below hb' (Nat.le_refl _)) (by rw [hlen]; decide)
    rw [p16, hlen] at h; exact h)
  clear hown hrd n0 n8 n16 p16
  rw [hlen]
  clear hlen
  have hr := Below.refl w1.heap.size w1
  go_wp2_with fail
  refine (N0.out _ hr).mono ?_
  rintro e w' ⟨rfl, rfl⟩
  go_wp2_with fail
  refine (N8.out _ hr).mono ?_
  rintro e w' ⟨rfl, rfl⟩
  go_wp2_with fail
  refine (N16.out _ hr).mono ?_
  rintro e w' ⟨rfl, rfl⟩
  go_wp2_with fail
  refine (P16.out _ hr).mono ?_
  rintro e w' ⟨rfl, rfl⟩
  go_wp2_with fail
  go_ret
  exact ⟨rfl, hb⟩
end Go.Proofs.Yteolkaheaaepiaa
