/-
  The statements of layer 18: ScrolldiffKeeps. By an AI agent.
-/
import Derived.Deep.RegionHeld3
import Derived.Test.YthohninbelhddaaRw
import Derived.Test.YthohninbelhddaaAw
import Derived.Test.YthohninbelhddaaGr2
namespace Go.Proofs.Ythohninbelhddaa
open Go.RowKit

attribute [local go_sem] guard44

theorem C.rows_at {gl : List (List C.Gl)} {rs : List (Option Addr × Nat × List C.Gl)} {t e k : Int} (h : rs.map (·.2.2) = V.rows gl t e k) {j : Nat} (hj : j < rs.length) (hl : j < gl.length) : rs[j].2.2 = V.rowAt gl t e k j := by
  have h1 := C.gl_get rs hj
  rw [h, V.rows_get _ _ _ _ hl] at h1
  exact h1.symm
set_option maxRecDepth 100000 in
set_option maxHeartbeats 16000000 in
theorem keeps_any (B : Nat) (a : C.VR) (t e k : Int) (w : World) (ha : C.Rv w B a.A a.rs) (hB : B ≤ w.heap.size) (_ : -9223372036854775808 ≤ t) (_ : t ≤ 9223372036854775807) (_ : -9223372036854775808 ≤ e) (_ : e ≤ 9223372036854775807) (hk1 : -9223372036854775808 ≤ k) (hk2 : k ≤ 9223372036854775807) :
    Calls Try.prog 10 #[a.val, .int .i64 t, .int .i64 e, .int .i64 k] w fun e' w' => e' = .returned (.bool true) ∧ Below w.heap.size w w' := by
  have GA : Hid (∀ w', Below w.heap.size w w' → Calls Try.prog 11 #[a.val] w' fun e w'' => C.Grt2 a.rs w' w'' e) := Lib.hid (fun w' hb' => great2_any B a w' (ha.below hb' hB) (Nat.le_trans hB hb'.size))
  have RW : Hid (∀ w', Below w.heap.size w w' → (a.rs.length ≤ 10 ∧ ∀ x ∈ a.rs, x.2.2.length ≤ 40) → Calls Try.prog 18 #[.slice a.A a.rs.length a.c, .int .i64 t, .int .i64 e, .int .i64 k] w' fun x w'' => C.RowsOut a.gl t e k w' w'' x) := Lib.hid (fun w' hb' hl => Rows_any B a.A a.c a.rs t e k w' (ha.below hb' hB) (Nat.le_trans hB hb'.size) (by omega) (fun r hr => by have := hl.2 r hr; omega))
  have HA : Hid (∀ w', Below w.heap.size w w' → C.Rv w' B a.A a.rs) := Lib.hid (fun w' hb' => ha.below hb' hB)
  have hgl : a.gl.length = a.rs.length := by simp [C.VR.gl]
  have HGL := Lib.hid hgl
  clear ha hgl
  obtain ⟨aw, ah, aA, ac, ars, ar, aco, av⟩ := a
  dsimp only [C.VR.val, C.VR.gl] at *
  obtain ⟨W, hW⟩ : ∃ W, w.alloc (.cells #[.int .i64 aw, .int .i64 ah, .slice aA ars.length ac, .int .i64 ar, .int .i64 aco, .bool av] 24) = W := ⟨_, rfl⟩
  have hbW : Below w.heap.size w W := by rw [← hW]; exact (Below.refl _ w).alloc (Nat.le_refl _) _
  have V0 : W.heap[w.heap.size]? = some (.cells #[.int .i64 aw, .int .i64 ah, .slice aA ars.length ac, .int .i64 ar, .int .i64 aco, .bool av] 24 (0, 0)) := by rw [← hW]; exact C.heap_new w _
  have xa0 := C.blk_cell V0 0
  have xa1 := C.blk_cell V0 1
  have xa2 := C.blk_cell V0 2
  have xa3 := C.blk_cell V0 3
  have xa4 := C.blk_cell V0 4
  have xa5 := C.blk_cell V0 5
  simp only [List.getElem?_toArray, List.getElem?_cons_zero, List.getElem?_cons_succ] at xa0 xa1 xa2 xa3 xa4 xa5
  have V0 := Lib.hid V0
  go_enter Try.func10, Try.ntmps10
  go_wp2_with fail
  refine (GA.out _ hbW).mono ?_
  rintro e' w1 ⟨r1, rfl, hr1, b1'⟩
  have b1 := hbW.trans (b1'.mono hbW.size)
  have V1 := Lib.hid ((b1'.block _ (Array.getElem?_eq_some_iff.1 V0.out).1).trans V0.out)
  clear xa0 xa1 xa2 xa3 xa4 xa5 hW V0
  have xa0 := C.blk_cell V1.out 0
  have xa1 := C.blk_cell V1.out 1
  have xa2 := C.blk_cell V1.out 2
  have xa3 := C.blk_cell V1.out 3
  have xa4 := C.blk_cell V1.out 4
  have xa5 := C.blk_cell V1.out 5
  simp only [List.getElem?_toArray, List.getElem?_cons_zero, List.getElem?_cons_succ] at xa0 xa1 xa2 xa3 xa4 xa5
  cases r1 with
  | true =>
    clear GA
    go_wp2_with fail
    refine (awake_any _).mono ?_
    rintro e' w2 ⟨rfl, b2⟩
    go_wp2_with fail
    go_ret
    exact ⟨rfl, b1.trans (b2.mono b1.size)⟩
  | false =>
    have hal := Lib.hid (hr1 rfl)
    have hal10 : ars.length ≤ 10 := hal.out.1
    clear hr1 GA
    go_wp2_with fail
    refine (RW.out _ b1 hal.out).mono ?_
    intro e' w3 hro
    obtain ⟨b3', hro⟩ := hro
    have b3 := b1.trans (b3'.mono b1.size)
    have V3 := Lib.hid ((b3'.block _ (Array.getElem?_eq_some_iff.1 V1.out).1).trans V1.out)
    clear xa0 xa1 xa2 xa3 xa4 xa5 RW V1
    rcases hro with ⟨hp, A, c, rfl⟩ | ⟨hp, A, c, rs, rfl, hrv, hrs⟩
    · clear hp HA HGL
      go_wp2_with fail
      refine (awake_any _).mono ?_
      rintro e' w9 ⟨rfl, b9⟩
      go_wp2_with fail
      go_ret
      exact ⟨rfl, b3.trans (b9.mono b3.size)⟩
    · have hlen : rs.length = ars.length := by have := congrArg List.length hrs; simpa [V.rows] using this
      have hpp := of_decide_eq_true hp
      rw [show (List.map (fun x => x.2.2) ars).length = ars.length by simp] at hpp
      obtain ⟨p1, p2, p3, p4, p5, p6⟩ := hpp
      obtain ⟨n, hn⟩ : ∃ n, ars.length = n := ⟨_, rfl⟩
      have HRV := Lib.hid hrv
      have HAV := Lib.hid (HA.out w3 b3)
      have HN := Lib.hid hn
      have HLEN := Lib.hid hlen
      have RA : Hid (∀ j (hj : j < rs.length), rs[j].2.2 = V.rowAt (ars.map (·.2.2)) t e k j) := Lib.hid (fun j hj => C.rows_at hrs hj (by simp; omega))
      have l1 : ars.length ≤ rs.length := by omega
      have l2 : rs.length ≤ ars.length := by omega
      have hl1 : ((rs.length : Int) != (ars.length : Int)) = false := C.bne_f (by omega)
      have hp3 : e ≤ (rs.length : Int) := by omega
      clear hn hlen hrs hrv HA hp
      have xa0 := C.blk_cell V3.out 0
      have xa1 := C.blk_cell V3.out 1
      have xa2 := C.blk_cell V3.out 2
      have xa3 := C.blk_cell V3.out 3
      have xa4 := C.blk_cell V3.out 4
      have xa5 := C.blk_cell V3.out 5
      simp only [List.getElem?_toArray, List.getElem?_cons_zero, List.getElem?_cons_succ] at xa0 xa1 xa2 xa3 xa4 xa5
      go_wp2
      go_loopw [55] (fun v55 wr => ∃ j m : Nat, v55 = .int .i64 j ∧ j ≤ rs.length ∧ wr = w3.drewN m) (fun v55 _ => rs.length - (intOf v55).toNat)
      case atStart => exact ⟨0, 0, rfl, Nat.zero_le _, rfl⟩
      case round =>
        obtain ⟨j, m, rfl, hj, rfl⟩ := hrel
        by_cases hlt : j < rs.length
        · have hja : j < ars.length := by omega
          have ra := RA.out j hlt
          obtain ⟨b0, o0, rfl, _, h0⟩ := HRV.out.at_ (by omega)
          have x0 := h0 j hlt
          obtain ⟨x1, x2, x3⟩ := HRV.out.each rs[j] (List.getElem_mem hlt)
          have q1 : (0 : Int) ≤ (j : Int) := by omega
          have q2 : (j : Int) < (rs.length : Int) := by omega
          have q2' : (j : Int) < (ars.length : Int) := by omega
          have q5 : (j : Int) ≤ 10 := by omega
          clear h0
          by_cases c1 : t ≤ (j : Int)
          · by_cases c2 : (j : Int) < e
            · by_cases c3 : t ≤ (j : Int) + k
              · by_cases c4 : (j : Int) + k < e
                · skip
                  obtain ⟨f, hf⟩ : ∃ f : Nat, (j : Int) + k = f := ⟨((j : Int) + k).toNat, by omega⟩
                  have hfl : f < ars.length := by omega
                  have u1 : IntKind.i64.wrap ((j : Int) + k) = f := by rw [hf]; simp [IntKind.wrap, IntKind.bits, IntKind.signed]; omega
                  have HF := Lib.hid hf
                  have q3 : (0 : Int) ≤ (f : Int) := by omega
                  have q4 : (f : Int) < (ars.length : Int) := by omega
                  have g3 : t ≤ (f : Int) := by omega
                  have g4 : (f : Int) < e := by omega
                  clear hf c3 c4
                  obtain ⟨b2, o2, rfl, _, h2⟩ := HAV.out.at_ (by omega)
                  have y0 := h2 f hfl
                  obtain ⟨y1, y2, y3⟩ := HAV.out.each ars[f] (List.getElem_mem hfl)
                  have EQ : Hid (∀ q, Calls Try.prog 22 #[.slice rs[j].1 rs[j].2.2.length rs[j].2.1, .slice ars[f].1 ars[f].2.2.length ars[f].2.1] (w3.drewN (m + q)) fun e' w' => e' = .returned (.bool true) ∧ ∃ n, w' = w3.drewN (m + n)) := Lib.hid (fun q => by
                    have heq : rs[j].2.2 = ars[f].2.2 := by rw [ra]; rw [V.rowAt_in ⟨c1, c2⟩ (by have := HF.out; omega), HF.out]; exact C.gl_get ars hfl
                    refine (samerow_any _ _ _ _ w3.heap.size rs[j].2.2 ars[f].2.2 (w3.drewN (m + q)) (x1.drewN _) ((y1.more (Nat.le_trans hB b3.size)).drewN _) x2 y2).mono ?_
                    rintro e' w' ⟨rfl, n, rfl⟩
                    exact ⟨by rw [decide_eq_true heq], q + n, by simp [Nat.add_assoc]⟩)
                  clear h2 x1 x2 x3 y1 y2 y3 ra
                  generalize rs[j] = xr at *
                  generalize ars[f] = yr at *
                  go_wp2_with fail
                  go_quiet ((go_at_call 22; exact EQ.out _))
                  go_wp2
                  go_roundw
                  case rel => exact ⟨j + 1, m + nq, by go_num, hlt, by simp⟩
                  case measure => simp [intOf] <;> omega
                · skip
                  obtain ⟨f, hf⟩ : ∃ f : Int, (j : Int) + k = f := ⟨_, rfl⟩
                  have u1 : IntKind.i64.wrap ((j : Int) + k) = f := by rw [← hf]; simp [IntKind.wrap, IntKind.bits, IntKind.signed]; omega
                  rw [V.rowAt_lost ⟨c1, c2⟩ (by omega)] at ra
                  have hz : ((rs[j].2.2.length : Int) != 0) = false := by rw [ra]; rfl
                  have g3 : t ≤ f := by omega
                  have g4 : ¬ f < e := by omega
                  clear c4
                  clear x1 x2 x3 ra hf c3
                  generalize rs[j] = xr at *
                  go_wp2
                  go_roundw
                  case rel => exact ⟨j + 1, m, by go_num, hlt, rfl⟩
                  case measure => simp [intOf] <;> omega
              · skip
                obtain ⟨f, hf⟩ : ∃ f : Int, (j : Int) + k = f := ⟨_, rfl⟩
                have u1 : IntKind.i64.wrap ((j : Int) + k) = f := by rw [← hf]; simp [IntKind.wrap, IntKind.bits, IntKind.signed]; omega
                rw [V.rowAt_lost ⟨c1, c2⟩ (by omega)] at ra
                have hz : ((rs[j].2.2.length : Int) != 0) = false := by rw [ra]; rfl
                have g3 : ¬ t ≤ f := by omega
                clear x1 x2 x3 ra hf c3
                generalize rs[j] = xr at *
                go_wp2
                go_roundw
                case rel => exact ⟨j + 1, m, by go_num, hlt, rfl⟩
                case measure => simp [intOf] <;> omega
            · skip
              obtain ⟨b2, o2, rfl, _, h2⟩ := HAV.out.at_ (by omega)
              have y0 := h2 j hja
              obtain ⟨y1, y2, y3⟩ := HAV.out.each ars[j] (List.getElem_mem hja)
              have EQ : Hid (∀ q, Calls Try.prog 22 #[.slice rs[j].1 rs[j].2.2.length rs[j].2.1, .slice ars[j].1 ars[j].2.2.length ars[j].2.1] (w3.drewN (m + q)) fun e' w' => e' = .returned (.bool true) ∧ ∃ n, w' = w3.drewN (m + n)) := Lib.hid (fun q => by
                have heq : rs[j].2.2 = ars[j].2.2 := by rw [ra]; rw [V.rowAt_out (by omega)]; exact C.gl_get ars hja
                refine (samerow_any _ _ _ _ w3.heap.size rs[j].2.2 ars[j].2.2 (w3.drewN (m + q)) (x1.drewN _) ((y1.more (Nat.le_trans hB b3.size)).drewN _) x2 y2).mono ?_
                rintro e' w' ⟨rfl, n, rfl⟩
                exact ⟨by rw [decide_eq_true heq], q + n, by simp [Nat.add_assoc]⟩)
              clear h2 x1 x2 x3 y1 y2 y3 ra
              generalize rs[j] = xr at *
              generalize ars[j] = yr at *
              go_wp2_with fail
              go_quiet ((go_at_call 22; exact EQ.out _))
              go_wp2
              go_roundw
              case rel => exact ⟨j + 1, m + nq, by go_num, hlt, by simp⟩
              case measure => simp [intOf] <;> omega
          · skip
            obtain ⟨b2, o2, rfl, _, h2⟩ := HAV.out.at_ (by omega)
            have y0 := h2 j hja
            obtain ⟨y1, y2, y3⟩ := HAV.out.each ars[j] (List.getElem_mem hja)
            have EQ : Hid (∀ q, Calls Try.prog 22 #[.slice rs[j].1 rs[j].2.2.length rs[j].2.1, .slice ars[j].1 ars[j].2.2.length ars[j].2.1] (w3.drewN (m + q)) fun e' w' => e' = .returned (.bool true) ∧ ∃ n, w' = w3.drewN (m + n)) := Lib.hid (fun q => by
              have heq : rs[j].2.2 = ars[j].2.2 := by rw [ra]; rw [V.rowAt_out (by omega)]; exact C.gl_get ars hja
              refine (samerow_any _ _ _ _ w3.heap.size rs[j].2.2 ars[j].2.2 (w3.drewN (m + q)) (x1.drewN _) ((y1.more (Nat.le_trans hB b3.size)).drewN _) x2 y2).mono ?_
              rintro e' w' ⟨rfl, n, rfl⟩
              exact ⟨by rw [decide_eq_true heq], q + n, by simp [Nat.add_assoc]⟩)
            clear h2 x1 x2 x3 y1 y2 y3 ra
            generalize rs[j] = xr at *
            generalize ars[j] = yr at *
            go_wp2_with fail
            go_quiet ((go_at_call 22; exact EQ.out _))
            go_wp2
            go_roundw
            case rel => exact ⟨j + 1, m + nq, by go_num, hlt, by simp⟩
            case measure => simp [intOf] <;> omega
        · obtain rfl : j = rs.length := by omega
          have b5 := Lib.hid (below_drewN b3 m)
          clear V3 HRV HAV RA
          go_wp2_with fail
          refine (awake_any _).mono ?_
          rintro e' w9 ⟨rfl, b9⟩
          go_wp2_with fail
          go_ret
          exact ⟨rfl, b5.out.trans (b9.mono b5.out.size)⟩
end Go.Proofs.Ythohninbelhddaa
