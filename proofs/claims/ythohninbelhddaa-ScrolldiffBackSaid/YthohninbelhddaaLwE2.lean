/-
  The statements of layer 18: ScrolldiffBack. By an AI agent.
-/
import Derived.Deep.RegionHeld3
import Derived.Test.YthohninbelhddaaLwE
import Derived.Test.YthohninbelhddaaGr2
namespace Go.Proofs.Ythohninbelhddaa
open Go.RowKit

attribute [local go_sem] guard44

/-- No row is longer after a scroll. -/
theorem C.rows_len {gl : List (List C.Gl)} {t e k : Int} {M : Nat} (h : ∀ r ∈ gl, r.length ≤ M) : ∀ r ∈ V.rows gl t e k, r.length ≤ M := by
  intro r hr
  unfold V.rows at hr
  simp only [List.mem_map, List.mem_range] at hr
  obtain ⟨i, hi, rfl⟩ := hr
  have g : ∀ m, (gl.getD m []).length ≤ M := fun m => by
    by_cases hm : m < gl.length
    · have : gl.getD m [] = gl[m] := by simp [List.getD, hm]
      rw [this]; exact h _ (List.getElem_mem hm)
    · have : gl.getD m [] = [] := by simp [List.getD, hm]
      rw [this]; exact Nat.zero_le _
  unfold V.rowAt
  split
  · split
    · exact g _
    · exact Nat.zero_le _
  · exact g _
set_option maxRecDepth 100000 in
set_option maxHeartbeats 16000000 in
theorem back_any (B : Nat) (a : C.VR) (t e k : Int) (w : World) (ha : C.Rv w B a.A a.rs) (hB : B ≤ w.heap.size) (_ : -9223372036854775808 ≤ t) (_ : t ≤ 9223372036854775807) (_ : -9223372036854775808 ≤ e) (_ : e ≤ 9223372036854775807) (hk1 : -9223372036854775808 ≤ k) (hk2 : k ≤ 9223372036854775807) :
    Calls Try.prog 8 #[a.val, .int .i64 t, .int .i64 e, .int .i64 k] w fun e' w' => e' = .returned (.bool true) ∧ Below w.heap.size w w' := by
  have GA : Hid (∀ w', Below w.heap.size w w' → Calls Try.prog 11 #[a.val] w' fun e w'' => C.Grt2 a.rs w' w'' e) := Lib.hid (fun w' hb' => great2_any B a w' (ha.below hb' hB) (Nat.le_trans hB hb'.size))
  have R2 : Hid (∀ w' k2 A c rs B', C.Rv w' B' A rs → B' ≤ w'.heap.size → rs.length ≤ 10 → (∀ r ∈ rs, r.2.2.length ≤ 1000) → Calls Try.prog 18 #[.slice A rs.length c, .int .i64 t, .int .i64 e, .int .i64 k2] w' fun x w'' => C.RowsOut (rs.map (·.2.2)) t e k2 w' w'' x) := Lib.hid (fun w' k2 A c rs B' hv hB' hl h40 => Rows_any B' A c rs t e k2 w' hv hB' (by omega) h40)
  have RW : Hid (∀ w', Below w.heap.size w w' → (a.rs.length ≤ 10 ∧ ∀ x ∈ a.rs, x.2.2.length ≤ 40) → Calls Try.prog 18 #[.slice a.A a.rs.length a.c, .int .i64 t, .int .i64 e, .int .i64 k] w' fun x w'' => C.RowsOut a.gl t e k w' w'' x) := Lib.hid (fun w' hb' hl => Rows_any B a.A a.c a.rs t e k w' (ha.below hb' hB) (Nat.le_trans hB hb'.size) (by omega) (fun r hr => by have := hl.2 r hr; omega))
  have HA : Hid (∀ w', Below w.heap.size w w' → C.Rv w' B a.A a.rs) := Lib.hid (fun w' hb' => ha.below hb' hB)
  have hgl : a.gl.length = a.rs.length := by simp [C.VR.gl]
  have HGL := Lib.hid hgl
  clear ha hgl
  obtain ⟨aw, ah, aA, ac, ars, ar, aco, av⟩ := a
  dsimp only [C.VR.val, C.VR.gl] at *
  obtain ⟨W, hW⟩ : ∃ W, w.alloc (.cells #[.int .i64 aw, .int .i64 ah, .slice aA ars.length ac, .int .i64 ar, .int .i64 aco, .bool av] 24) = W := ⟨_, rfl⟩
  have hbW : Below w.heap.size w W := by rw [← hW]; exact (Below.refl _ w).alloc (Nat.le_refl _) _
  have V0 : W.heap[w.heap.size]? = some (.cells #[.int .i64 aw, .int .i64 ah, .slice aA ars.length ac, .int .i64 ar, .int .i64 aco, .bool av] 24 (0, 0)) := by rw [← hW]; exact C.heap_new w _
  have xa0 := C.blk_cell V0 0
  have xa1 := C.blk_cell V0 1
  have xa2 := C.blk_cell V0 2
  have xa3 := C.blk_cell V0 3
  have xa4 := C.blk_cell V0 4
  have xa5 := C.blk_cell V0 5
  simp only [List.getElem?_toArray, List.getElem?_cons_zero, List.getElem?_cons_succ] at xa0 xa1 xa2 xa3 xa4 xa5
  have V0 := Lib.hid V0
  go_enter Try.func8, Try.ntmps8
  go_wp2_with fail
  refine (GA.out _ hbW).mono ?_
  rintro e' w1 ⟨r1, rfl, hr1, b1'⟩
  have b1 := hbW.trans (b1'.mono hbW.size)
  have V1 := Lib.hid ((b1'.block _ (Array.getElem?_eq_some_iff.1 V0.out).1).trans V0.out)
  clear xa0 xa1 xa2 xa3 xa4 xa5 hW V0
  have xa0 := C.blk_cell V1.out 0
  have xa1 := C.blk_cell V1.out 1
  have xa2 := C.blk_cell V1.out 2
  have xa3 := C.blk_cell V1.out 3
  have xa4 := C.blk_cell V1.out 4
  have xa5 := C.blk_cell V1.out 5
  simp only [List.getElem?_toArray, List.getElem?_cons_zero, List.getElem?_cons_succ] at xa0 xa1 xa2 xa3 xa4 xa5
  cases r1 with
  | true =>
    clear GA
    go_wp2_with fail
    refine (awake_any _).mono ?_
    rintro e' w2 ⟨rfl, b2⟩
    go_wp2_with fail
    go_ret
    exact ⟨rfl, b1.trans (b2.mono b1.size)⟩
  | false =>
    have hal := Lib.hid (hr1 rfl)
    have hal10 : ars.length ≤ 10 := hal.out.1
    clear hr1 GA
    go_wp2_with fail
    refine (RW.out _ b1 hal.out).mono ?_
    intro e' w3 hro
    obtain ⟨b3', hro⟩ := hro
    have b3 := b1.trans (b3'.mono b1.size)
    have V3 := Lib.hid ((b3'.block _ (Array.getElem?_eq_some_iff.1 V1.out).1).trans V1.out)
    clear xa0 xa1 xa2 xa3 xa4 xa5 RW V1
    rcases hro with ⟨hp, A, c, rfl⟩ | ⟨hp, A, c, rs, rfl, hrv, hrs⟩
    · clear hp HA HGL
      go_wp2_with fail
      refine (awake_any _).mono ?_
      rintro e' w9 ⟨rfl, b9⟩
      go_wp2_with fail
      go_ret
      exact ⟨rfl, b3.trans (b9.mono b3.size)⟩
    · have hlen : rs.length = ars.length := by have := congrArg List.length hrs; simpa [V.rows] using this
      have hpp := of_decide_eq_true hp
      have hpn : V.possB (rs.map (·.2.2)).length t e (-k) = true := by
        obtain ⟨p1, p2, p3, p4, p5, p6⟩ := hpp
        simp only [List.length_map] at p3 ⊢
        exact decide_eq_true ⟨p1, p2, by omega, by omega, by omega, by omega⟩
      have HPP := Lib.hid hpp
      rw [show (List.map (fun x => x.2.2) ars).length = ars.length by simp] at hpp
      obtain ⟨p1, p2, p3, p4, p5, p6⟩ := hpp
      have un : IntKind.i64.wrap (-k) = -k := by simp [IntKind.wrap, IntKind.bits, IntKind.signed]; omega
      have R2 := Lib.hid (R2.out w3 (-k) A c rs w3.heap.size hrv (Nat.le_refl _) (by omega) (fun r hr => by
        have h := C.rows_len (gl := ars.map (·.2.2)) (t := t) (e := e) (k := k) (M := 40) (fun r hr => by
          simp only [List.mem_map] at hr
          obtain ⟨x, hx, rfl⟩ := hr
          exact hal.out.2 x hx) r.2.2 (by rw [← hrs]; exact List.mem_map.2 ⟨r, hr, rfl⟩)
        omega))
      have HRS := Lib.hid hrs
      have l1 : ars.length ≤ rs.length := by omega
      have l2 : rs.length ≤ ars.length := by omega
      clear hlen hrs hrv hp
      have xa0 := C.blk_cell V3.out 0
      have xa1 := C.blk_cell V3.out 1
      have xa2 := C.blk_cell V3.out 2
      have xa3 := C.blk_cell V3.out 3
      have xa4 := C.blk_cell V3.out 4
      have xa5 := C.blk_cell V3.out 5
      simp only [List.getElem?_toArray, List.getElem?_cons_zero, List.getElem?_cons_succ] at xa0 xa1 xa2 xa3 xa4 xa5
      go_wp2_with fail
      refine R2.out.mono ?_
      intro e' w4 hro
      obtain ⟨b4', hro⟩ := hro
      have b4 := b3.trans (b4'.mono b3.size)
      have V4 := Lib.hid ((b4'.block _ (Array.getElem?_eq_some_iff.1 V3.out).1).trans V3.out)
      clear xa0 xa1 xa2 xa3 xa4 xa5 R2 V3
      rcases hro with ⟨hp, -⟩ | ⟨hp, A2, c2, rs2, rfl, hrv2, hrs2⟩
      · exact absurd (hp.symm.trans hpn) (by decide)
      have hlen : rs2.length = rs.length := by have := congrArg List.length hrs2; simpa [V.rows] using this
      have HRV := Lib.hid hrv2
      have HAV := Lib.hid (HA.out w4 b4)
      have RA : Hid (∀ j (hj : j < rs2.length) (hja : j < ars.length), rs2[j].2.2 = if (t ≤ (j : Int) ∧ (j : Int) < e) ∧ ¬ (t ≤ (j : Int) - k ∧ (j : Int) - k < e) then [] else ars[j].2.2) := Lib.hid (fun j hj hja => by
        have h1 := C.gl_get rs2 hj
        rw [hrs2, HRS.out, V.rows_back _ HPP.out (by simpa using hja), C.gl_get ars hja] at h1
        exact h1.symm)
      have l3 : rs.length ≤ rs2.length := by omega
      have l4 : rs2.length ≤ rs.length := by omega
      have hl1 : ((rs.length : Int) != (ars.length : Int)) = false := C.bne_f (by omega)
      have hl2 : ((rs2.length : Int) != (ars.length : Int)) = false := C.bne_f (by omega)
      clear hlen hrs2 hrv2 HA hp hpn HRS HPP
      have xa0 := C.blk_cell V4.out 0
      have xa1 := C.blk_cell V4.out 1
      have xa2 := C.blk_cell V4.out 2
      have xa3 := C.blk_cell V4.out 3
      have xa4 := C.blk_cell V4.out 4
      have xa5 := C.blk_cell V4.out 5
      simp only [List.getElem?_toArray, List.getElem?_cons_zero, List.getElem?_cons_succ] at xa0 xa1 xa2 xa3 xa4 xa5
      go_wp2
      go_loopw [68] (fun v68 wr => ∃ j m : Nat, v68 = .int .i64 j ∧ j ≤ rs2.length ∧ wr = w4.drewN m) (fun v68 _ => rs2.length - (intOf v68).toNat)
      case atStart => exact ⟨0, 0, rfl, Nat.zero_le _, rfl⟩
      case round =>
        obtain ⟨j, m, rfl, hj, rfl⟩ := hrel
        by_cases hlt : j < rs2.length
        · have hja : j < ars.length := by omega
          have ra := RA.out j hlt hja
          obtain ⟨b0, o0, rfl, _, h0⟩ := HRV.out.at_ (by omega)
          have x0 := h0 j hlt
          obtain ⟨x1, x2, x3⟩ := HRV.out.each rs2[j] (List.getElem_mem hlt)
          have q1 : (0 : Int) ≤ (j : Int) := by omega
          have q2 : (j : Int) < (rs2.length : Int) := by omega
          have q2' : (j : Int) < (ars.length : Int) := by omega
          have q5 : (j : Int) ≤ 10 := by omega
          obtain ⟨f, hf⟩ : ∃ f : Int, (j : Int) - k = f := ⟨_, rfl⟩
          have u1 : IntKind.i64.wrap ((j : Int) - k) = f := by rw [← hf]; simp [IntKind.wrap, IntKind.bits, IntKind.signed]; omega
          rw [hf] at ra
          have HF := Lib.hid hf
          clear h0 hf
          by_cases c1 : t ≤ (j : Int)
          · by_cases c2 : (j : Int) < e
            · by_cases c3 : t ≤ f
              · by_cases c4 : f < e
                · skip
                  have d1 : decide (f < t) = false := decide_eq_false (by omega)
                  have d2 : decide (e ≤ f) = false := decide_eq_false (by omega)
                  rw [if_neg (by omega)] at ra
                  obtain ⟨b2, o2, rfl, _, h2⟩ := HAV.out.at_ (by omega)
                  have y0 := h2 j hja
                  obtain ⟨y1, y2, y3⟩ := HAV.out.each ars[j] (List.getElem_mem hja)
                  have EQ : Hid (∀ q, Calls Try.prog 22 #[.slice rs2[j].1 rs2[j].2.2.length rs2[j].2.1, .slice ars[j].1 ars[j].2.2.length ars[j].2.1] (w4.drewN (m + q)) fun e' w' => e' = .returned (.bool true) ∧ ∃ n, w' = w4.drewN (m + n)) := Lib.hid (fun q => by
                    refine (samerow_any _ _ _ _ w4.heap.size rs2[j].2.2 ars[j].2.2 (w4.drewN (m + q)) (x1.drewN _) ((y1.more (Nat.le_trans hB b4.size)).drewN _) x2 y2).mono ?_
                    rintro e' w' ⟨rfl, n, rfl⟩
                    exact ⟨by rw [decide_eq_true ra], q + n, by simp [Nat.add_assoc]⟩)
                  clear h2 x1 x2 x3 y1 y2 y3 ra
                  generalize rs2[j] = xr at *
                  generalize ars[j] = yr at *
                  go_wp2_with fail
                  go_quiet ((go_at_call 22; exact EQ.out _))
                  go_wp2
                  go_roundw
                  case rel => exact ⟨j + 1, m + nq, by go_num, hlt, by simp⟩
                  case measure => simp [intOf] <;> omega
                · skip
                  have d1 : decide (f < t) = false := decide_eq_false (by omega)
                  have d2 : decide (e ≤ f) = true := decide_eq_true (by omega)
                  rw [if_pos (by omega)] at ra
                  have hz : ((rs2[j].2.2.length : Int) != 0) = false := by rw [ra]; rfl
                  clear x1 x2 x3 ra
                  generalize rs2[j] = xr at *
                  go_wp2_with fail
                  go_quiet (fail)
                  go_wp2
                  go_roundw
                  case rel => exact ⟨j + 1, m + nq, by go_num, hlt, by simp⟩
                  case measure => simp [intOf] <;> omega
              · skip
                have d1 : decide (f < t) = true := decide_eq_true (by omega)
                rw [if_pos (by omega)] at ra
                have hz : ((rs2[j].2.2.length : Int) != 0) = false := by rw [ra]; rfl
                clear x1 x2 x3 ra
                generalize rs2[j] = xr at *
                go_wp2_with fail
                go_quiet (fail)
                go_wp2
                go_roundw
                case rel => exact ⟨j + 1, m + nq, by go_num, hlt, by simp⟩
                case measure => simp [intOf] <;> omega
            · skip
              have d1 : decide ((j : Int) < e) = false := decide_eq_false (by omega)
              rw [if_neg (by omega)] at ra
              obtain ⟨b2, o2, rfl, _, h2⟩ := HAV.out.at_ (by omega)
              have y0 := h2 j hja
              obtain ⟨y1, y2, y3⟩ := HAV.out.each ars[j] (List.getElem_mem hja)
              have EQ : Hid (∀ q, Calls Try.prog 22 #[.slice rs2[j].1 rs2[j].2.2.length rs2[j].2.1, .slice ars[j].1 ars[j].2.2.length ars[j].2.1] (w4.drewN (m + q)) fun e' w' => e' = .returned (.bool true) ∧ ∃ n, w' = w4.drewN (m + n)) := Lib.hid (fun q => by
                refine (samerow_any _ _ _ _ w4.heap.size rs2[j].2.2 ars[j].2.2 (w4.drewN (m + q)) (x1.drewN _) ((y1.more (Nat.le_trans hB b4.size)).drewN _) x2 y2).mono ?_
                rintro e' w' ⟨rfl, n, rfl⟩
                exact ⟨by rw [decide_eq_true ra], q + n, by simp [Nat.add_assoc]⟩)
              clear h2 x1 x2 x3 y1 y2 y3 ra
              generalize rs2[j] = xr at *
              generalize ars[j] = yr at *
              go_wp2_with fail
              go_quiet ((go_at_call 22; exact EQ.out _))
              go_wp2
              go_roundw
              case rel => exact ⟨j + 1, m + nq, by go_num, hlt, by simp⟩
              case measure => simp [intOf] <;> omega
          · skip
            have d1 : decide (t ≤ (j : Int)) = false := decide_eq_false (by omega)
            rw [if_neg (by omega)] at ra
            obtain ⟨b2, o2, rfl, _, h2⟩ := HAV.out.at_ (by omega)
            have y0 := h2 j hja
            obtain ⟨y1, y2, y3⟩ := HAV.out.each ars[j] (List.getElem_mem hja)
            have EQ : Hid (∀ q, Calls Try.prog 22 #[.slice rs2[j].1 rs2[j].2.2.length rs2[j].2.1, .slice ars[j].1 ars[j].2.2.length ars[j].2.1] (w4.drewN (m + q)) fun e' w' => e' = .returned (.bool true) ∧ ∃ n, w' = w4.drewN (m + n)) := Lib.hid (fun q => by
              refine (samerow_any _ _ _ _ w4.heap.size rs2[j].2.2 ars[j].2.2 (w4.drewN (m + q)) (x1.drewN _) ((y1.more (Nat.le_trans hB b4.size)).drewN _) x2 y2).mono ?_
              rintro e' w' ⟨rfl, n, rfl⟩
              exact ⟨by rw [decide_eq_true ra], q + n, by simp [Nat.add_assoc]⟩)
            clear h2 x1 x2 x3 y1 y2 y3 ra
            generalize rs2[j] = xr at *
            generalize ars[j] = yr at *
            go_wp2_with fail
            go_quiet ((go_at_call 22; exact EQ.out _))
            go_wp2
            go_roundw
            case rel => exact ⟨j + 1, m + nq, by go_num, hlt, by simp⟩
            case measure => simp [intOf] <;> omega
        · obtain rfl : j = rs2.length := by omega
          have b5 := Lib.hid (below_drewN b4 m)
          clear V4 HRV HAV RA
          go_wp2_with fail
          refine (awake_any _).mono ?_
          rintro e' w9 ⟨rfl, b9⟩
          go_wp2_with fail
          go_ret
          exact ⟨rfl, b5.out.trans (b9.mono b5.out.size)⟩
end Go.Proofs.Ythohninbelhddaa
