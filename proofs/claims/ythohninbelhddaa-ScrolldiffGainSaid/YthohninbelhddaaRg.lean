/-
  The walks of layer 18: the reference's match, SameRows, equal, Rows, Gain. By an AI agent.
-/
import Derived.Test.YthohninbelhddaaRw
import Derived.Test.YthohninbelhddaaLwA
namespace Go.Proofs.Ythohninbelhddaa
open Go.RowKit

attribute [local go_sem] guard44

set_option maxHeartbeats 2000000 in
theorem refmatch_any (a b : C.VR) (w : World) : Calls Try.prog 27 #[a.val, b.val] w fun e w' => e = .returned (.bool (C.mt a.ht b.ht a.rs.length b.rs.length)) ∧ Below w.heap.size w w' := by
  obtain ⟨aw, ah, aA, ac, ars, ar, aco, av⟩ := a
  obtain ⟨bw, bh, bA, bc, brs, br, bco, bv⟩ := b
  have hb0 : Below w.heap.size w ((w.alloc (.cells #[.int .i64 aw, .int .i64 ah, .slice aA ars.length ac, .int .i64 ar, .int .i64 aco, .bool av] 24)).alloc (.cells #[.int .i64 bw, .int .i64 bh, .slice bA brs.length bc, .int .i64 br, .int .i64 bco, .bool bv] 24)) := ((Below.refl _ w).alloc (Nat.le_refl _) _).alloc (by simp) _
  have HF : Hid (∀ r, C.mt ah bh ars.length brs.length = r → r = C.mt ah bh ars.length brs.length) := Lib.hid (fun r h => h.symm)
  dsimp only [C.VR.val]
  by_cases h1 : ah = bh
  · have g1 : (ah == bh) = true := beq_iff_eq.2 h1
    by_cases h2 : (ars.length : Int) = ah
    · have g2 : ((ars.length : Int) == ah) = true := beq_iff_eq.2 h2
      by_cases h3 : (brs.length : Int) = bh
      · have g3 : ((brs.length : Int) == bh) = true := beq_iff_eq.2 h3
        have HE : Hid (C.mt ah bh ars.length brs.length = true) := Lib.hid (decide_eq_true ⟨h1, h2, h3⟩)
        clear h1 h2 h3
        go_enter Try.func27, Try.ntmps27
        go_wp2
        go_ret
        exact ⟨ret_bool HE.out.symm, hb0⟩
      · have g3 : ((brs.length : Int) == bh) = false := beq_eq_false_iff_ne.2 h3
        have HE : Hid (C.mt ah bh ars.length brs.length = false) := Lib.hid (decide_eq_false (fun h => h3 h.2.2))
        clear h1 h2 h3
        go_enter Try.func27, Try.ntmps27
        go_wp2
        go_ret
        exact ⟨ret_bool HE.out.symm, hb0⟩
    · have g2 : ((ars.length : Int) == ah) = false := beq_eq_false_iff_ne.2 h2
      have HE : Hid (C.mt ah bh ars.length brs.length = false) := Lib.hid (decide_eq_false (fun h => h2 h.2.1))
      clear h1 h2
      go_enter Try.func27, Try.ntmps27
      go_wp2
      go_ret
      exact ⟨ret_bool HE.out.symm, hb0⟩
  · have g1 : (ah == bh) = false := beq_eq_false_iff_ne.2 h1
    have HE : Hid (C.mt ah bh ars.length brs.length = false) := Lib.hid (decide_eq_false (fun h => h1 h.1))
    clear h1
    go_enter Try.func27, Try.ntmps27
    go_wp2
    go_ret
    exact ⟨ret_bool HE.out.symm, hb0⟩


set_option maxRecDepth 10000 in
set_option maxHeartbeats 4000000 in
theorem refequal_any (B : Nat) (A1 A2 : Option Addr) (c1 c2 : Nat) (ars brs : List (Option Addr × Nat × List C.Gl)) (t e : Nat) (w : World) (ha : C.Rv w B A1 ars) (hb : C.Rv w B A2 brs) (hal : ars.length ≤ 1000) (hea : e ≤ ars.length) (heb : e ≤ brs.length) (hte : t ≤ e) :
    Calls Try.prog 30 #[.slice A1 ars.length c1, .slice A2 brs.length c2, .int .i64 t, .int .i64 e] w fun x w' => x = .returned (.int .i64 (V.cntI (V.eqAt (ars.map (·.2.2)) (brs.map (·.2.2))) t e)) ∧ ∃ n, w' = w.drewN n := by
  have HS := Lib.hid (fun (i : Nat) (h : t ≤ i) => V.cnt_snoc (V.eqAt (ars.map (·.2.2)) (brs.map (·.2.2))) h)
  have H0 := Lib.hid (V.cnt_none (V.eqAt (ars.map (·.2.2)) (brs.map (·.2.2))) (Nat.le_refl t))
  have HL := Lib.hid (fun (i : Nat) => V.cnt_le (V.eqAt (ars.map (·.2.2)) (brs.map (·.2.2))) t i)
  have HA := Lib.hid ha
  have HB := Lib.hid hb
  clear ha hb
  go_enter Try.func30, Try.ntmps30
  go_wp2
  go_loopw [9, 10] (fun vn vi wr => ∃ i n : Nat, t ≤ i ∧ i ≤ e ∧ vi = .int .i64 i ∧ vn = .int .i64 n ∧ Hid (n = V.cntI (V.eqAt (ars.map (·.2.2)) (brs.map (·.2.2))) t i) ∧ ∃ m, wr = w.drewN m) (fun _ vi _ => e - (intOf vi).toNat)
  case atStart => exact ⟨t, 0, Nat.le_refl _, hte, rfl, rfl, Lib.hid H0.out.symm, 0, rfl⟩
  case round =>
    obtain ⟨i, n, hti, hie, rfl, rfl, hn, m, rfl⟩ := hrel
    by_cases hlt' : i < e
    · skip
      obtain ⟨b1, o1, rfl, _, h1⟩ := HA.out.at_ (by omega)
      obtain ⟨b2, o2, rfl, _, h2⟩ := HB.out.at_ (by omega)
      have hia : i < ars.length := by omega
      have hib : i < brs.length := by omega
      have x0 := h1 i hia
      have y0 := h2 i hib
      obtain ⟨x1, x2, x3⟩ := HA.out.each ars[i] (List.getElem_mem hia)
      obtain ⟨y1, y2, y3⟩ := HB.out.each brs[i] (List.getElem_mem hib)
      have EQ : Hid (∀ q, Calls Try.prog 22 #[.slice ars[i].1 ars[i].2.2.length ars[i].2.1, .slice brs[i].1 brs[i].2.2.length brs[i].2.1] (w.drewN (m + q)) fun e' w' => e' = .returned (.bool (V.eqAt (ars.map (·.2.2)) (brs.map (·.2.2)) i)) ∧ ∃ n, w' = w.drewN (m + n)) := Lib.hid (fun q => by
        refine (samerow_any _ _ _ _ B ars[i].2.2 brs[i].2.2 (w.drewN (m + q)) (x1.drewN _) (y1.drewN _) x2 y2).mono ?_
        rintro e' w' ⟨rfl, n, rfl⟩
        refine ⟨by unfold V.eqAt; rw [C.gl_get _ hia, C.gl_get _ hib], q + n, by simp [Nat.add_assoc]⟩)
      have q1 : (0 : Int) ≤ (i : Int) := by omega
      have q2 : (i : Int) < (ars.length : Int) := by omega
      have q3 : (i : Int) < (brs.length : Int) := by omega
      have hst := HS.out i hti
      have hle := HL.out i
      rw [← hn.out] at hst hle
      have HN2 : Hid (∀ r, V.eqAt (ars.map (·.2.2)) (brs.map (·.2.2)) i = r → ((n + if r = true then 1 else 0) : Nat) = V.cntI (V.eqAt (ars.map (·.2.2)) (brs.map (·.2.2))) t (i + 1)) := Lib.hid (fun r h => by rw [hst, h])
      clear hst hn
      cases hr : V.eqAt (ars.map (·.2.2)) (brs.map (·.2.2)) i
      · rw [hr] at EQ
        have hn2 := Lib.hid (HN2.out _ hr)
        clear HN2 hr
        generalize ars[i] = xr at *
        generalize brs[i] = yr at *
        obtain ⟨xa, xc, xl⟩ := xr
        obtain ⟨ya, yc, yl⟩ := yr
        dsimp only at *
        clear h1 h2 x1 x2 x3 y1 y2 y3
        go_wp2_with fail
        go_quiet ((go_at_call 22; exact EQ.out _))
        go_wp2
        go_roundw
        case rel => exact ⟨i + 1, n, by omega, hlt', by go_num, rfl, Lib.hid (by simpa using hn2.out), m + nq, by simp⟩
        case measure => simp [intOf] <;> omega
      · rw [hr] at EQ
        have hn2 := Lib.hid (HN2.out _ hr)
        clear HN2 hr
        generalize ars[i] = xr at *
        generalize brs[i] = yr at *
        obtain ⟨xa, xc, xl⟩ := xr
        obtain ⟨ya, yc, yl⟩ := yr
        dsimp only at *
        clear h1 h2 x1 x2 x3 y1 y2 y3
        go_wp2_with fail
        go_quiet ((go_at_call 22; exact EQ.out _))
        go_wp2
        go_roundw
        case rel => exact ⟨i + 1, n + 1, by omega, hlt', by go_num, by go_num, Lib.hid (by simpa using hn2.out), m + nq, by simp⟩
        case measure => simp [intOf] <;> omega
    · obtain rfl : i = e := by omega
      go_wp2
      go_ret
      exact ⟨ret_int (by rw [hn.out]), m, rfl⟩

theorem C.rows_eq {a b : List (List C.Gl)} (h : a.length = b.length) (h2 : ∀ i, i < a.length → V.eqAt a b i = true) : a = b := by
  refine List.ext_getElem h fun i g1 g2 => ?_
  have := of_decide_eq_true (h2 i g1)
  simpa [List.getD, g1, g2] using this
set_option maxRecDepth 10000 in
set_option maxHeartbeats 4000000 in
theorem samerows_any (B : Nat) (A1 A2 : Option Addr) (c1 c2 : Nat) (ars brs : List (Option Addr × Nat × List C.Gl)) (w : World) (ha : C.Rv w B A1 ars) (hb : C.Rv w B A2 brs) :
    Calls Try.prog 21 #[.slice A1 ars.length c1, .slice A2 brs.length c2] w fun x w' => x = .returned (.bool (decide (ars.map (·.2.2) = brs.map (·.2.2)))) ∧ ∃ n, w' = w.drewN n := by
  have HA := Lib.hid ha
  have HB := Lib.hid hb
  have l1 := ha.len
  have l2 := hb.len
  unfold maxLen at l1 l2
  clear ha hb
  by_cases hl : ars.length = brs.length
  · have HL := Lib.hid hl
    have hl1 : ((ars.length : Int) != (brs.length : Int)) = false := by simp [hl]
    have hle : brs.length ≤ ars.length := by omega
    have hle2 : ars.length ≤ brs.length := by omega
    clear hl
    go_enter Try.func21, Try.ntmps21
    go_wp2
    go_loopw [5] (fun vi wr => ∃ i : Nat, i ≤ ars.length ∧ vi = .int .i64 i ∧ Hid (∀ j, j < i → V.eqAt (ars.map (·.2.2)) (brs.map (·.2.2)) j = true) ∧ ∃ m, wr = w.drewN m) (fun vi _ => ars.length - (intOf vi).toNat)
    case atStart => exact ⟨0, Nat.zero_le _, rfl, Lib.hid (fun j h => absurd h (by omega)), 0, rfl⟩
    case round =>
      obtain ⟨i, hie, rfl, hn, m, rfl⟩ := hrel
      by_cases hlt' : i < ars.length
      · skip
        obtain ⟨b1, o1, rfl, _, h1⟩ := HA.out.at_ (by omega)
        obtain ⟨b2, o2, rfl, _, h2⟩ := HB.out.at_ (by omega)
        have hia : i < ars.length := by omega
        have hib : i < brs.length := by omega
        have x0 := h1 i hia
        have y0 := h2 i hib
        obtain ⟨x1, x2, x3⟩ := HA.out.each ars[i] (List.getElem_mem hia)
        obtain ⟨y1, y2, y3⟩ := HB.out.each brs[i] (List.getElem_mem hib)
        have EQ : Hid (∀ q, Calls Try.prog 22 #[.slice ars[i].1 ars[i].2.2.length ars[i].2.1, .slice brs[i].1 brs[i].2.2.length brs[i].2.1] (w.drewN (m + q)) fun e' w' => e' = .returned (.bool (V.eqAt (ars.map (·.2.2)) (brs.map (·.2.2)) i)) ∧ ∃ n, w' = w.drewN (m + n)) := Lib.hid (fun q => by
          refine (samerow_any _ _ _ _ B ars[i].2.2 brs[i].2.2 (w.drewN (m + q)) (x1.drewN _) (y1.drewN _) x2 y2).mono ?_
          rintro e' w' ⟨rfl, n, rfl⟩
          refine ⟨by unfold V.eqAt; rw [C.gl_get _ hia, C.gl_get _ hib], q + n, by simp [Nat.add_assoc]⟩)
        have q1 : (0 : Int) ≤ (i : Int) := by omega
        have q2 : (i : Int) < (ars.length : Int) := by omega
        have q3 : (i : Int) < (brs.length : Int) := by omega
        have hn2 : Hid (V.eqAt (ars.map (·.2.2)) (brs.map (·.2.2)) i = true → ∀ j, j < i + 1 → V.eqAt (ars.map (·.2.2)) (brs.map (·.2.2)) j = true) := Lib.hid (fun h j hj => by
          by_cases e : j = i
          · subst e; exact h
          · exact hn.out j (by omega))
        have hno : Hid (V.eqAt (ars.map (·.2.2)) (brs.map (·.2.2)) i = false → decide (ars.map (·.2.2) = brs.map (·.2.2)) = false) := Lib.hid (fun h => decide_eq_false (fun he => by
          rw [he] at h
          simp [V.eqAt] at h))
        clear hn
        cases hr : V.eqAt (ars.map (·.2.2)) (brs.map (·.2.2)) i
        · rw [hr] at EQ
          have hno2 := Lib.hid (hno.out hr)
          clear hno hn2 hr
          generalize ars[i] = xr at *
          generalize brs[i] = yr at *
          obtain ⟨xa, xc, xl⟩ := xr
          obtain ⟨ya, yc, yl⟩ := yr
          dsimp only at *
          clear h1 h2 x1 x2 x3 y1 y2 y3
          go_wp2_with fail
          go_quiet ((go_at_call 22; exact EQ.out _))
          go_wp2
          go_ret
          exact ⟨ret_bool hno2.out.symm, m + nq, by simp⟩
        · rw [hr] at EQ
          have hn3 := Lib.hid (hn2.out hr)
          clear hno hn2 hr
          generalize ars[i] = xr at *
          generalize brs[i] = yr at *
          obtain ⟨xa, xc, xl⟩ := xr
          obtain ⟨ya, yc, yl⟩ := yr
          dsimp only at *
          clear h1 h2 x1 x2 x3 y1 y2 y3
          go_wp2_with fail
          go_quiet ((go_at_call 22; exact EQ.out _))
          go_wp2
          go_roundw
          case rel => exact ⟨i + 1, hlt', by go_num, hn3, m + nq, by simp⟩
          case measure => simp [intOf] <;> omega
      · obtain rfl : i = ars.length := by omega
        have HE : Hid (decide (ars.map (·.2.2) = brs.map (·.2.2)) = true) := Lib.hid (decide_eq_true (C.rows_eq (by simp [HL.out]) (fun j hj => hn.out j (by simpa using hj))))
        go_wp2
        go_ret
        exact ⟨ret_bool HE.out.symm, m, rfl⟩
  · have HE : Hid (decide (ars.map (·.2.2) = brs.map (·.2.2)) = false) := Lib.hid (decide_eq_false (fun h => hl (by have := congrArg List.length h; simpa using this)))
    have hl1 : ((ars.length : Int) != (brs.length : Int)) = true := by rw [bne_iff_ne]; omega
    go_enter Try.func21, Try.ntmps21
    go_wp2
    go_ret
    exact ⟨ret_bool HE.out.symm, 0, rfl⟩

end Go.Proofs.Ythohninbelhddaa
