/-
  The statements of layer 18: ScrolldiffRecognizes. By an AI agent.
-/
import Derived.Deep.RegionHeld3
import Derived.Test.YthohninbelhddaaLwE
import Derived.Test.YthohninbelhddaaGr2
namespace Go.Proofs.Ythohninbelhddaa
open Go.RowKit

attribute [local go_sem] guard44

theorem C.distinct {rs : List (Option Addr × Nat × List C.Gl)} (h : ∀ x, x < rs.length → ∀ hx : x < rs.length, rs[x].2.2 ≠ [] ∧ ∀ y, y < x → ∀ hy : y < rs.length, rs[y].2.2 ≠ rs[x].2.2) : V.Distinct (rs.map (·.2.2)) := by
  have key : ∀ i j, i < j → (hj : j < rs.length) → (rs.map (·.2.2)).getD i [] = (rs.map (·.2.2)).getD j [] → False := fun i j hij hj he => by
    rw [C.gl_get rs (by omega), C.gl_get rs hj] at he
    exact (h j hj hj).2 i hij (by omega) he
  refine ⟨fun i hi => ?_, fun i j hi hj he => ?_⟩
  · rw [List.length_map] at hi
    rw [C.gl_get rs hi]
    exact (h i hi hi).1
  · rw [List.length_map] at hi hj
    rcases Nat.lt_trichotomy i j with h1 | h1 | h1
    · exact (key i j h1 hj he).elim
    · exact h1
    · exact (key j i h1 hi he.symm).elim
/-- The scroll that was made is the one that is found. -/
theorem C.found {a b : C.VR} {t e k : Int} {o : Option V.Sc} (hd : V.Distinct a.gl) (hp : V.poss a.rs.length t e k) (h2 : 2 ≤ e - t - max k (-k)) (hb : b.gl = V.rows a.gl t e k) (hm : C.mt a.ht b.ht a.rs.length b.rs.length = true)
    (ho : C.mt a.ht b.ht a.rs.length b.rs.length = true → V.Best (fun c => V.gain a.gl b.gl c.t c.e c.k) (V.All a.rs.length) o) : o = some ⟨t, e, k⟩ := by
  have h := ho hm
  have hl : a.gl.length = a.rs.length := by simp [C.VR.gl]
  have hp' : V.poss a.gl.length t e k := by rw [hl]; exact hp
  have hg := V.gain_true hd hp'
  cases o with
  | none =>
    have := h ⟨t, e, k⟩ hp
    dsimp only at this
    rw [hb, hg] at this
    omega
  | some m =>
    have h1 := V.best_some_le _ h (c := ⟨t, e, k⟩) hp
    dsimp only at h1
    rw [hb, hg] at h1
    have hpm : V.poss a.gl.length m.t m.e m.k := by rw [hl]; exact h.1
    have hr := V.recognized hd hp' (by omega) hpm
    obtain ⟨r1, r2, r3⟩ := hr.2 (by omega)
    obtain ⟨mt, me, mk⟩ := m
    dsimp only at r1 r2 r3
    rw [r1, r2, r3]
set_option maxRecDepth 100000 in
set_option maxHeartbeats 16000000 in
theorem recog_any (B : Nat) (a : C.VR) (t e k : Int) (w : World) (ha : C.Rv w B a.A a.rs) (hB : B ≤ w.heap.size) (_ : -9223372036854775808 ≤ t) (_ : t ≤ 9223372036854775807) (_ : -9223372036854775808 ≤ e) (_ : e ≤ 9223372036854775807) (hk1 : -9223372036854775808 ≤ k) (hk2 : k ≤ 9223372036854775807) :
    Calls Try.prog 9 #[a.val, .int .i64 t, .int .i64 e, .int .i64 k] w fun e' w' => e' = .returned (.bool true) ∧ Below w.heap.size w w' := by
  have GA : Hid (∀ w', Below w.heap.size w w' → Calls Try.prog 11 #[a.val] w' fun e w'' => C.Grt2 a.rs w' w'' e) := Lib.hid (fun w' hb' => great2_any B a w' (ha.below hb' hB) (Nat.le_trans hB hb'.size))
  have FN : Hid (a.ht = (a.rs.length : Int) → (∀ x, x < a.rs.length → ∀ hx : x < a.rs.length, a.rs[x].2.2 ≠ [] ∧ ∀ y, y < x → ∀ hy : y < a.rs.length, a.rs[y].2.2 ≠ a.rs[x].2.2) → V.possB a.gl.length t e k = true → 2 ≤ e - t - max k (-k) → (a.rs.length ≤ 10 ∧ ∀ x ∈ a.rs, x.2.2.length ≤ 40) → ∀ w' A c rs, Below w.heap.size w w' → C.Rv w' w'.heap.size A rs → rs.map (·.2.2) = V.rows a.gl t e k →
      Calls Try.prog 13 #[a.val, .agg #[.int .i64 a.wd, .int .i64 a.ht, .slice A rs.length c, .int .i64 a.row, .int .i64 a.col, .bool a.vis]] w' fun x w'' => x = .returned (.tuple #[.agg #[.int .i64 2, .int .i64 t, .int .i64 0, .int .i64 k, .int .i64 e, .slice none 0 0], .bool true]) ∧ Below w'.heap.size w' w'') := Lib.hid (fun hht hd hp h2 hl w' A c rs hb' hrv hrs => by
    have hlr : rs.length = a.rs.length := by have := congrArg List.length hrs; simpa [V.rows, C.VR.gl] using this
    have hp' : V.poss a.rs.length t e k := by have := of_decide_eq_true hp; rwa [show a.gl.length = a.rs.length by simp [C.VR.gl]] at this
    refine (find_any w'.heap.size a ⟨a.wd, a.ht, A, c, rs, a.row, a.col, a.vis⟩ w' ((ha.below hb' hB).more (Nat.le_trans hB hb'.size)) hrv (Nat.le_refl _) (by omega)).mono ?_
    rintro x w'' ⟨⟨o, rfl, _, h4⟩, h5⟩
    have ho := C.found (a := a) (b := ⟨a.wd, a.ht, A, c, rs, a.row, a.col, a.vis⟩) (C.distinct hd) hp' h2 hrs (decide_eq_true ⟨rfl, hht.symm, by show (rs.length : Int) = a.ht; omega⟩) h4
    subst ho
    exact ⟨rfl, h5⟩)
  have RW : Hid (∀ w', Below w.heap.size w w' → (a.rs.length ≤ 10 ∧ ∀ x ∈ a.rs, x.2.2.length ≤ 40) → Calls Try.prog 18 #[.slice a.A a.rs.length a.c, .int .i64 t, .int .i64 e, .int .i64 k] w' fun x w'' => C.RowsOut a.gl t e k w' w'' x) := Lib.hid (fun w' hb' hl => Rows_any B a.A a.c a.rs t e k w' (ha.below hb' hB) (Nat.le_trans hB hb'.size) (by omega) (fun r hr => by have := hl.2 r hr; omega))
  have HA : Hid (∀ w', Below w.heap.size w w' → C.Rv w' B a.A a.rs) := Lib.hid (fun w' hb' => ha.below hb' hB)
  have hgl : a.gl.length = a.rs.length := by simp [C.VR.gl]
  have HGL := Lib.hid hgl
  clear ha hgl
  obtain ⟨aw, ah, aA, ac, ars, ar, aco, av⟩ := a
  dsimp only [C.VR.val, C.VR.gl] at *
  obtain ⟨W, hW⟩ : ∃ W, w.alloc (.cells #[.int .i64 aw, .int .i64 ah, .slice aA ars.length ac, .int .i64 ar, .int .i64 aco, .bool av] 24) = W := ⟨_, rfl⟩
  have hbW : Below w.heap.size w W := by rw [← hW]; exact (Below.refl _ w).alloc (Nat.le_refl _) _
  have V0 : W.heap[w.heap.size]? = some (.cells #[.int .i64 aw, .int .i64 ah, .slice aA ars.length ac, .int .i64 ar, .int .i64 aco, .bool av] 24 (0, 0)) := by rw [← hW]; exact C.heap_new w _
  have xa0 := C.blk_cell V0 0
  have xa1 := C.blk_cell V0 1
  have xa2 := C.blk_cell V0 2
  have xa3 := C.blk_cell V0 3
  have xa4 := C.blk_cell V0 4
  have xa5 := C.blk_cell V0 5
  simp only [List.getElem?_toArray, List.getElem?_cons_zero, List.getElem?_cons_succ] at xa0 xa1 xa2 xa3 xa4 xa5
  have V0 := Lib.hid V0
  go_enter Try.func9, Try.ntmps9
  go_wp2_with fail
  refine (GA.out _ hbW).mono ?_
  rintro e' w1 ⟨r1, rfl, hr1, b1'⟩
  have b1 := hbW.trans (b1'.mono hbW.size)
  have V1 := Lib.hid ((b1'.block _ (Array.getElem?_eq_some_iff.1 V0.out).1).trans V0.out)
  clear xa0 xa1 xa2 xa3 xa4 xa5 hW V0
  have xa0 := C.blk_cell V1.out 0
  have xa1 := C.blk_cell V1.out 1
  have xa2 := C.blk_cell V1.out 2
  have xa3 := C.blk_cell V1.out 3
  have xa4 := C.blk_cell V1.out 4
  have xa5 := C.blk_cell V1.out 5
  simp only [List.getElem?_toArray, List.getElem?_cons_zero, List.getElem?_cons_succ] at xa0 xa1 xa2 xa3 xa4 xa5
  cases r1 with
  | true =>
    clear GA
    go_wp2_with fail
    refine (awake_any _).mono ?_
    rintro e' w2 ⟨rfl, b2⟩
    go_wp2_with fail
    go_ret
    exact ⟨rfl, b1.trans (b2.mono b1.size)⟩
  | false =>
    have hal := Lib.hid (hr1 rfl)
    have hal10 : ars.length ≤ 10 := hal.out.1
    clear hr1 GA
    by_cases hh : ah = (ars.length : Int)
    · have hh' : (ah != (ars.length : Int)) = false := C.bne_f hh
      have HH := Lib.hid hh
      have HAV := Lib.hid (HA.out w1 b1)
      clear hh HA HGL b1'
      go_wp2
      clear hh'
      go_loopw [33] (fun v33 wr => ∃ i m : Nat, v33 = .int .i64 i ∧ i ≤ ars.length ∧ Hid (∀ x, x < i → ∀ hx : x < ars.length, ars[x].2.2 ≠ [] ∧ ∀ y, y < x → ∀ hy : y < ars.length, ars[y].2.2 ≠ ars[x].2.2) ∧ wr = w1.drewN m) (fun v33 _ => ars.length - (intOf v33).toNat)
      case atStart => exact ⟨0, 0, rfl, Nat.zero_le _, Lib.hid (fun x h => absurd h (by omega)), rfl⟩
      case round =>
        obtain ⟨i, m, rfl, hi, hD, rfl⟩ := hrel
        have b2 := Lib.hid (below_drewN b1 m)
        by_cases hlt : i < ars.length
        · obtain ⟨b0, o0, rfl, _, h0⟩ := HAV.out.at_ (by omega)
          have x0 := h0 i hlt
          obtain ⟨x1, x2, x3⟩ := HAV.out.each ars[i] (List.getElem_mem hlt)
          have q1 : (0 : Int) ≤ (i : Int) := by omega
          have q2 : (i : Int) < (ars.length : Int) := by omega
          by_cases hz : ars[i].2.2.length = 0
          · have hz' : ((ars[i].2.2.length : Int) == 0) = true := by simp [hz]
            clear hz x1 x2 x3 h0 RW FN hD
            generalize ars[i] = xr at *
            go_wp2_with fail
            refine (awake_any _).mono ?_
            rintro e' w9 ⟨rfl, b9⟩
            go_wp2_with fail
            go_ret
            exact ⟨rfl, b2.out.trans (b9.mono b2.out.size)⟩
          · have hz' : ((ars[i].2.2.length : Int) == 0) = false := beq_eq_false_iff_ne.2 (by omega)
            have hD2 : Hid ((∀ y, y < i → ∀ hy : y < ars.length, ars[y].2.2 ≠ ars[i].2.2) → ∀ x, x < i + 1 → ∀ hx : x < ars.length, ars[x].2.2 ≠ [] ∧ ∀ y, y < x → ∀ hy : y < ars.length, ars[y].2.2 ≠ ars[x].2.2) := Lib.hid (fun h x hx hxl => by
              by_cases e : x = i
              · subst e
                exact ⟨fun h => hz (by rw [h]; rfl), h⟩
              · exact hD.out x (by omega) hxl)
            have H0 := Lib.hid h0
            have X1 := Lib.hid x1
            clear hz h0 hD x1 x3
            generalize ars[i] = xr at *
            go_wp2
            go_loopw [45] (fun v45 wr => ∃ k m : Nat, v45 = .int .i64 k ∧ k ≤ i ∧ Hid (∀ y, y < k → ∀ hy : y < ars.length, ars[y].2.2 ≠ xr.2.2) ∧ wr = w1.drewN m) (fun v45 _ => i - (intOf v45).toNat)
            case atStart => exact ⟨0, m, rfl, Nat.zero_le _, Lib.hid (fun y h => absurd h (by omega)), rfl⟩
            case round =>
              clear b2
              obtain ⟨k', m, rfl, hk, hE, rfl⟩ := hrel
              have b2 := Lib.hid (below_drewN b1 m)
              by_cases hkl : k' < i
              · have hkn : k' < ars.length := by omega
                have y0 := H0.out k' hkn
                obtain ⟨y1, y2, y3⟩ := HAV.out.each ars[k'] (List.getElem_mem hkn)
                have q3 : (0 : Int) ≤ (k' : Int) := by omega
                have q4 : (k' : Int) < (ars.length : Int) := by omega
                by_cases he : xr.2.2 = ars[k'].2.2
                · skip
                  have EQ : Hid (∀ q, Calls Try.prog 22 #[.slice xr.1 xr.2.2.length xr.2.1, .slice ars[k'].1 ars[k'].2.2.length ars[k'].2.1] (w1.drewN (m + q)) fun e' w' => e' = .returned (.bool true) ∧ ∃ n, w' = w1.drewN (m + n)) := Lib.hid (fun q => by
                    refine (samerow_any _ _ _ _ w1.heap.size xr.2.2 ars[k'].2.2 (w1.drewN (m + q)) ((X1.out.more (Nat.le_trans hB b1.size)).drewN _) ((y1.more (Nat.le_trans hB b1.size)).drewN _) x2 y2).mono ?_
                    rintro e' w' ⟨rfl, n, rfl⟩
                    exact ⟨by rw [decide_eq_true he], q + n, by simp [Nat.add_assoc]⟩)
                  clear he y1 y2 y3 hE hD2 RW FN
                  generalize ars[k'] = yr at *
                  go_wp2_with fail
                  go_quiet ((go_at_call 22; exact EQ.out _))
                  go_wp2_with fail
                  have b4 := Lib.hid (below_drewN b1 (m + nq))
                  refine (awake_any _).mono ?_
                  rintro e' w9 ⟨rfl, b9⟩
                  go_wp2_with fail
                  go_ret
                  exact ⟨rfl, b4.out.trans (b9.mono b4.out.size)⟩
                · skip
                  have EQ : Hid (∀ q, Calls Try.prog 22 #[.slice xr.1 xr.2.2.length xr.2.1, .slice ars[k'].1 ars[k'].2.2.length ars[k'].2.1] (w1.drewN (m + q)) fun e' w' => e' = .returned (.bool false) ∧ ∃ n, w' = w1.drewN (m + n)) := Lib.hid (fun q => by
                    refine (samerow_any _ _ _ _ w1.heap.size xr.2.2 ars[k'].2.2 (w1.drewN (m + q)) ((X1.out.more (Nat.le_trans hB b1.size)).drewN _) ((y1.more (Nat.le_trans hB b1.size)).drewN _) x2 y2).mono ?_
                    rintro e' w' ⟨rfl, n, rfl⟩
                    exact ⟨by rw [decide_eq_false he], q + n, by simp [Nat.add_assoc]⟩)
                  have hE2 : Hid (∀ y, y < k' + 1 → ∀ hy : y < ars.length, ars[y].2.2 ≠ xr.2.2) := Lib.hid (fun y hy hyl => by
                    by_cases e : y = k'
                    · subst e; exact fun h => he h.symm
                    · exact hE.out y (by omega) hyl)
                  clear he y1 y2 y3 hE
                  generalize ars[k'] = yr at *
                  go_wp2_with fail
                  go_quiet ((go_at_call 22; exact EQ.out _))
                  go_wp2
                  go_roundw
                  case rel => exact ⟨k' + 1, m + nq, by go_num, hkl, hE2, by simp⟩
                  case measure => simp [intOf] <;> omega
              · obtain rfl : k' = i := by omega
                have hD3 := Lib.hid (hD2.out hE.out)
                clear hD2 hE
                go_wp2
                go_roundw
                case rel => exact ⟨k' + 1, m, by go_num, hlt, hD3, rfl⟩
                case measure => simp [intOf] <;> omega
        · obtain rfl : i = ars.length := by omega
          clear HAV
          go_wp2_with fail
          refine (RW.out _ b2.out hal.out).mono ?_
          intro e' w3 hro
          obtain ⟨b3', hro⟩ := hro
          have b3 := b2.out.trans (b3'.mono b2.out.size)
          have V3 := Lib.hid ((b3'.block _ (show w.heap.size < w1.heap.size from (Array.getElem?_eq_some_iff.1 V1.out).1)).trans V1.out)
          clear xa0 xa1 xa2 xa3 xa4 xa5 V1
          have xa0 := C.blk_cell V3.out 0
          have xa1 := C.blk_cell V3.out 1
          have xa2 := C.blk_cell V3.out 2
          have xa3 := C.blk_cell V3.out 3
          have xa4 := C.blk_cell V3.out 4
          have xa5 := C.blk_cell V3.out 5
          simp only [List.getElem?_toArray, List.getElem?_cons_zero, List.getElem?_cons_succ] at xa0 xa1 xa2 xa3 xa4 xa5
          rcases hro with ⟨hp, A, c, rfl⟩ | ⟨hp, A, c, rs, rfl, hrv, hrs⟩
          · clear hp FN RW
            go_wp2_with fail
            refine (awake_any _).mono ?_
            rintro e' w9 ⟨rfl, b9⟩
            go_wp2_with fail
            go_ret
            exact ⟨rfl, b3.trans (b9.mono b3.size)⟩
          · have hpp := of_decide_eq_true hp
            rw [show (List.map (fun x => x.2.2) ars).length = ars.length by simp] at hpp
            obtain ⟨p1, p2, p3, p4, p5, p6⟩ := hpp
            have un : IntKind.i64.wrap (-k) = -k := by simp [IntKind.wrap, IntKind.bits, IntKind.signed]; omega
            have u1 : IntKind.i64.wrap (e - t) = e - t := by simp [IntKind.wrap, IntKind.bits, IntKind.signed]; omega
            have hrv := Lib.hid hrv
            have hle : rs.length ≤ 10 := by have := congrArg List.length hrs; simp [V.rows] at this; omega
            have hrs := Lib.hid hrs
            clear b3' b2
            by_cases hmx : -k ≤ k
            · skip
              have u2 : IntKind.i64.wrap (e - t - k) = e - t - k := by simp [IntKind.wrap, IntKind.bits, IntKind.signed]; omega
              by_cases hs : e - t - k < 2
              · clear FN hp
                go_wp2_with fail
                refine (awake_any _).mono ?_
                rintro e' w9 ⟨rfl, b9⟩
                go_wp2_with fail
                go_ret
                exact ⟨rfl, b3.trans (b9.mono b3.size)⟩
              · have hsd : decide (e - t - k < 2) = false := decide_eq_false hs
                have FN := Lib.hid (FN.out HH.out hD.out hp (by omega) hal.out)
                have c4' : Below w3.heap.size w3 (w3.alloc (.cells #[.int .i64 aw, .int .i64 ah, .slice A rs.length c, .int .i64 ar, .int .i64 aco, .bool av] 24)) := (Below.refl _ w3).alloc (Nat.le_refl _) _
                have b4 := b3.trans (c4'.mono b3.size)
                have V4 := Lib.hid ((c4'.block _ (Array.getElem?_eq_some_iff.1 V3.out).1).trans V3.out)
                have FN := Lib.hid (FN.out _ A c rs b4 ((hrv.out.below c4' (Nat.le_refl _)).more c4'.size) hrs.out)
                have hrv := Lib.hid ((hrv.out.below c4' (Nat.le_refl _)).more c4'.size)
                have xb0 := C.blk_cell V4.out 0
                have xb1 := C.blk_cell V4.out 1
                have xb2 := C.blk_cell V4.out 2
                have xb3 := C.blk_cell V4.out 3
                have xb4 := C.blk_cell V4.out 4
                have xb5 := C.blk_cell V4.out 5
                simp only [List.getElem?_toArray, List.getElem?_cons_zero, List.getElem?_cons_succ] at xb0 xb1 xb2 xb3 xb4 xb5
                go_wp2_with fail
                refine FN.out.mono ?_
                rintro e' w5 ⟨rfl, b5'⟩
                have b5 := b4.trans (b5'.mono b4.size)
                have V5 := Lib.hid ((b5'.block _ (Array.getElem?_eq_some_iff.1 V4.out).1).trans V4.out)
                have hrv := Lib.hid ((hrv.out.below b5' (Nat.le_refl _)).more b5'.size)
                clear xa0 xa1 xa2 xa3 xa4 xa5 xb0 xb1 xb2 xb3 xb4 xb5 FN V4 V3 c4' b5'
                have c6' : Below w5.heap.size w5 (w5.alloc (.cells #[.int .i64 2, .int .i64 t, .int .i64 0, .int .i64 k, .int .i64 e, .slice none 0 0] 29)) := (Below.refl _ w5).alloc (Nat.le_refl _) _
                have b6 := b5.trans (c6'.mono b5.size)
                have V6 := Lib.hid ((c6'.block _ (Array.getElem?_eq_some_iff.1 V5.out).1).trans V5.out)
                have hrv := Lib.hid ((hrv.out.below c6' (Nat.le_refl _)).more c6'.size)
                have xa0 := C.blk_cell V6.out 0
                have xa1 := C.blk_cell V6.out 1
                have xa2 := C.blk_cell V6.out 2
                have xa3 := C.blk_cell V6.out 3
                have xa4 := C.blk_cell V6.out 4
                have xa5 := C.blk_cell V6.out 5
                simp only [List.getElem?_toArray, List.getElem?_cons_zero, List.getElem?_cons_succ] at xa0 xa1 xa2 xa3 xa4 xa5
                go_wp2_with fail
                refine (RW.out _ b6 hal.out).mono ?_
                intro e' w6 hro
                obtain ⟨b7', hro⟩ := hro
                have b7 := b6.trans (b7'.mono b6.size)
                have hrv := Lib.hid ((hrv.out.below b7' (Nat.le_refl _)).more b7'.size)
                clear xa0 xa1 xa2 xa3 xa4 xa5 V6 V5 RW c6'
                rcases hro with ⟨hp', -⟩ | ⟨-, A2, c2, rs2, rfl, hrv2, hrs2⟩
                · exact absurd (hp'.symm.trans hp) (by decide)
                have hrv2 := Lib.hid hrv2
                have hle : Hid (rs2.length = rs.length) := Lib.hid (by have := congrArg List.length (hrs2.trans hrs.out.symm); simpa using this)
                have l1 : rs.length ≤ rs2.length := by have := hle.out; omega
                have l2 : rs2.length ≤ rs.length := by have := hle.out; omega
                have hl1 : ((rs2.length : Int) != (rs.length : Int)) = false := C.bne_f (by omega)
                have RA : Hid (∀ j (hj : j < rs2.length) (hj' : j < rs.length), rs2[j].2.2 = rs[j].2.2) := Lib.hid (fun j hj hj' => by
                  have h1 := C.gl_get rs2 hj
                  have h2 := C.gl_get rs hj'
                  rw [hrs2] at h1
                  rw [hrs.out] at h2
                  exact h1.symm.trans h2)
                clear hle hrs2 hrs hp b7' hD HH hs hsd
                have b7 := Lib.hid b7
                go_wp2
                go_loopw [119] (fun v119 wr => ∃ j m : Nat, v119 = .int .i64 j ∧ j ≤ rs.length ∧ wr = w6.drewN m) (fun v119 _ => rs.length - (intOf v119).toNat)
                case atStart => exact ⟨0, 0, rfl, Nat.zero_le _, rfl⟩
                case round =>
                  obtain ⟨j, m, rfl, hj, rfl⟩ := hrel
                  by_cases hlt : j < rs.length
                  · have hj2 : j < rs2.length := by omega
                    have ra := RA.out j hj2 hlt
                    obtain ⟨b0, o0, rfl, _, h0⟩ := hrv2.out.at_ (by omega)
                    have x0 := h0 j hj2
                    obtain ⟨x1, x2, x3⟩ := hrv2.out.each rs2[j] (List.getElem_mem hj2)
                    obtain ⟨b2, o2, rfl, _, h2⟩ := hrv.out.at_ (by omega)
                    have y0 := h2 j hlt
                    obtain ⟨y1, y2, y3⟩ := hrv.out.each rs[j] (List.getElem_mem hlt)
                    have q1 : (0 : Int) ≤ (j : Int) := by omega
                    have q2 : (j : Int) < (rs2.length : Int) := by omega
                    have q2' : (j : Int) < (rs.length : Int) := by omega
                    obtain ⟨f, hf⟩ : ∃ f : Int, (j : Int) + k = f := ⟨_, rfl⟩
                    have u5 : IntKind.i64.wrap ((j : Int) + k) = f := by rw [← hf]; simp [IntKind.wrap, IntKind.bits, IntKind.signed]; omega
                    clear hf
                    by_cases g1 : t ≤ (j : Int)
                    · by_cases g2 : (j : Int) < e
                      · by_cases g3 : t ≤ f
                        · by_cases g4 : f < e
                          · skip
                            have d1 : decide (t ≤ (j : Int)) = true := decide_eq_true g1
                            have d2 : decide ((j : Int) < e) = true := decide_eq_true g2
                            have d3 : decide (t ≤ f) = true := decide_eq_true g3
                            have d4 : decide (f < e) = true := decide_eq_true g4
                            have EQ : Hid (∀ q, Calls Try.prog 22 #[.slice rs2[j].1 rs2[j].2.2.length rs2[j].2.1, .slice rs[j].1 rs[j].2.2.length rs[j].2.1] (w6.drewN (m + q)) fun e' w' => e' = .returned (.bool true) ∧ ∃ n, w' = w6.drewN (m + n)) := Lib.hid (fun q => by
                              refine (samerow_any _ _ _ _ w6.heap.size rs2[j].2.2 rs[j].2.2 (w6.drewN (m + q)) (x1.drewN _) (y1.drewN _) x2 y2).mono ?_
                              rintro e' w' ⟨rfl, n, rfl⟩
                              exact ⟨by rw [decide_eq_true ra], q + n, by simp [Nat.add_assoc]⟩)
                            clear h2 h0 x1 x2 x3 y1 y2 y3 ra
                            generalize rs2[j] = xr at *
                            generalize rs[j] = yr at *
                            go_wp2_with fail
                            go_quiet ((go_at_call 22; exact EQ.out _))
                            go_wp2
                            go_roundw
                            case rel => exact ⟨j + 1, m + nq, by go_num, hlt, by simp⟩
                            case measure => simp [intOf] <;> omega
                          · skip
                            have d1 : decide (t ≤ (j : Int)) = true := decide_eq_true g1
                            have d2 : decide ((j : Int) < e) = true := decide_eq_true g2
                            have d3 : decide (t ≤ f) = true := decide_eq_true g3
                            have d4 : decide (f < e) = false := decide_eq_false g4
                            skip
                            clear h2 h0 x1 x2 x3 y1 y2 y3 ra
                            generalize rs2[j] = xr at *
                            generalize rs[j] = yr at *
                            go_wp2_with fail
                            go_quiet (fail)
                            go_wp2
                            go_roundw
                            case rel => exact ⟨j + 1, m + nq, by go_num, hlt, by simp⟩
                            case measure => simp [intOf] <;> omega
                        · skip
                          have d1 : decide (t ≤ (j : Int)) = true := decide_eq_true g1
                          have d2 : decide ((j : Int) < e) = true := decide_eq_true g2
                          have d3 : decide (t ≤ f) = false := decide_eq_false g3
                          skip
                          clear h2 h0 x1 x2 x3 y1 y2 y3 ra
                          generalize rs2[j] = xr at *
                          generalize rs[j] = yr at *
                          go_wp2_with fail
                          go_quiet (fail)
                          go_wp2
                          go_roundw
                          case rel => exact ⟨j + 1, m + nq, by go_num, hlt, by simp⟩
                          case measure => simp [intOf] <;> omega
                      · skip
                        have d1 : decide (t ≤ (j : Int)) = true := decide_eq_true g1
                        have d2 : decide ((j : Int) < e) = false := decide_eq_false g2
                        skip
                        clear h2 h0 x1 x2 x3 y1 y2 y3 ra
                        generalize rs2[j] = xr at *
                        generalize rs[j] = yr at *
                        go_wp2_with fail
                        go_quiet (fail)
                        go_wp2
                        go_roundw
                        case rel => exact ⟨j + 1, m + nq, by go_num, hlt, by simp⟩
                        case measure => simp [intOf] <;> omega
                    · skip
                      have d1 : decide (t ≤ (j : Int)) = false := decide_eq_false g1
                      skip
                      clear h2 h0 x1 x2 x3 y1 y2 y3 ra
                      generalize rs2[j] = xr at *
                      generalize rs[j] = yr at *
                      go_wp2_with fail
                      go_quiet (fail)
                      go_wp2
                      go_roundw
                      case rel => exact ⟨j + 1, m + nq, by go_num, hlt, by simp⟩
                      case measure => simp [intOf] <;> omega
                  · obtain rfl : j = rs.length := by omega
                    have b8 := Lib.hid (below_drewN b7.out m)
                    clear hrv hrv2 RA
                    go_wp2_with fail
                    refine (awake_any _).mono ?_
                    rintro e' w9 ⟨rfl, b9⟩
                    go_wp2_with fail
                    go_ret
                    exact ⟨rfl, b8.out.trans (b9.mono b8.out.size)⟩
            · skip
              have u2 : IntKind.i64.wrap (e - t - -k) = e - t - -k := by simp [IntKind.wrap, IntKind.bits, IntKind.signed]; omega
              by_cases hs : e - t - -k < 2
              · clear FN hp
                go_wp2_with fail
                refine (awake_any _).mono ?_
                rintro e' w9 ⟨rfl, b9⟩
                go_wp2_with fail
                go_ret
                exact ⟨rfl, b3.trans (b9.mono b3.size)⟩
              · have hsd : decide (e - t - -k < 2) = false := decide_eq_false hs
                have FN := Lib.hid (FN.out HH.out hD.out hp (by omega) hal.out)
                have c4' : Below w3.heap.size w3 (w3.alloc (.cells #[.int .i64 aw, .int .i64 ah, .slice A rs.length c, .int .i64 ar, .int .i64 aco, .bool av] 24)) := (Below.refl _ w3).alloc (Nat.le_refl _) _
                have b4 := b3.trans (c4'.mono b3.size)
                have V4 := Lib.hid ((c4'.block _ (Array.getElem?_eq_some_iff.1 V3.out).1).trans V3.out)
                have FN := Lib.hid (FN.out _ A c rs b4 ((hrv.out.below c4' (Nat.le_refl _)).more c4'.size) hrs.out)
                have hrv := Lib.hid ((hrv.out.below c4' (Nat.le_refl _)).more c4'.size)
                have xb0 := C.blk_cell V4.out 0
                have xb1 := C.blk_cell V4.out 1
                have xb2 := C.blk_cell V4.out 2
                have xb3 := C.blk_cell V4.out 3
                have xb4 := C.blk_cell V4.out 4
                have xb5 := C.blk_cell V4.out 5
                simp only [List.getElem?_toArray, List.getElem?_cons_zero, List.getElem?_cons_succ] at xb0 xb1 xb2 xb3 xb4 xb5
                go_wp2_with fail
                refine FN.out.mono ?_
                rintro e' w5 ⟨rfl, b5'⟩
                have b5 := b4.trans (b5'.mono b4.size)
                have V5 := Lib.hid ((b5'.block _ (Array.getElem?_eq_some_iff.1 V4.out).1).trans V4.out)
                have hrv := Lib.hid ((hrv.out.below b5' (Nat.le_refl _)).more b5'.size)
                clear xa0 xa1 xa2 xa3 xa4 xa5 xb0 xb1 xb2 xb3 xb4 xb5 FN V4 V3 c4' b5'
                have c6' : Below w5.heap.size w5 (w5.alloc (.cells #[.int .i64 2, .int .i64 t, .int .i64 0, .int .i64 k, .int .i64 e, .slice none 0 0] 29)) := (Below.refl _ w5).alloc (Nat.le_refl _) _
                have b6 := b5.trans (c6'.mono b5.size)
                have V6 := Lib.hid ((c6'.block _ (Array.getElem?_eq_some_iff.1 V5.out).1).trans V5.out)
                have hrv := Lib.hid ((hrv.out.below c6' (Nat.le_refl _)).more c6'.size)
                have xa0 := C.blk_cell V6.out 0
                have xa1 := C.blk_cell V6.out 1
                have xa2 := C.blk_cell V6.out 2
                have xa3 := C.blk_cell V6.out 3
                have xa4 := C.blk_cell V6.out 4
                have xa5 := C.blk_cell V6.out 5
                simp only [List.getElem?_toArray, List.getElem?_cons_zero, List.getElem?_cons_succ] at xa0 xa1 xa2 xa3 xa4 xa5
                go_wp2_with fail
                refine (RW.out _ b6 hal.out).mono ?_
                intro e' w6 hro
                obtain ⟨b7', hro⟩ := hro
                have b7 := b6.trans (b7'.mono b6.size)
                have hrv := Lib.hid ((hrv.out.below b7' (Nat.le_refl _)).more b7'.size)
                clear xa0 xa1 xa2 xa3 xa4 xa5 V6 V5 RW c6'
                rcases hro with ⟨hp', -⟩ | ⟨-, A2, c2, rs2, rfl, hrv2, hrs2⟩
                · exact absurd (hp'.symm.trans hp) (by decide)
                have hrv2 := Lib.hid hrv2
                have hle : Hid (rs2.length = rs.length) := Lib.hid (by have := congrArg List.length (hrs2.trans hrs.out.symm); simpa using this)
                have l1 : rs.length ≤ rs2.length := by have := hle.out; omega
                have l2 : rs2.length ≤ rs.length := by have := hle.out; omega
                have hl1 : ((rs2.length : Int) != (rs.length : Int)) = false := C.bne_f (by omega)
                have RA : Hid (∀ j (hj : j < rs2.length) (hj' : j < rs.length), rs2[j].2.2 = rs[j].2.2) := Lib.hid (fun j hj hj' => by
                  have h1 := C.gl_get rs2 hj
                  have h2 := C.gl_get rs hj'
                  rw [hrs2] at h1
                  rw [hrs.out] at h2
                  exact h1.symm.trans h2)
                clear hle hrs2 hrs hp b7' hD HH hs hsd
                have b7 := Lib.hid b7
                go_wp2
                go_loopw [119] (fun v119 wr => ∃ j m : Nat, v119 = .int .i64 j ∧ j ≤ rs.length ∧ wr = w6.drewN m) (fun v119 _ => rs.length - (intOf v119).toNat)
                case atStart => exact ⟨0, 0, rfl, Nat.zero_le _, rfl⟩
                case round =>
                  obtain ⟨j, m, rfl, hj, rfl⟩ := hrel
                  by_cases hlt : j < rs.length
                  · have hj2 : j < rs2.length := by omega
                    have ra := RA.out j hj2 hlt
                    obtain ⟨b0, o0, rfl, _, h0⟩ := hrv2.out.at_ (by omega)
                    have x0 := h0 j hj2
                    obtain ⟨x1, x2, x3⟩ := hrv2.out.each rs2[j] (List.getElem_mem hj2)
                    obtain ⟨b2, o2, rfl, _, h2⟩ := hrv.out.at_ (by omega)
                    have y0 := h2 j hlt
                    obtain ⟨y1, y2, y3⟩ := hrv.out.each rs[j] (List.getElem_mem hlt)
                    have q1 : (0 : Int) ≤ (j : Int) := by omega
                    have q2 : (j : Int) < (rs2.length : Int) := by omega
                    have q2' : (j : Int) < (rs.length : Int) := by omega
                    obtain ⟨f, hf⟩ : ∃ f : Int, (j : Int) + k = f := ⟨_, rfl⟩
                    have u5 : IntKind.i64.wrap ((j : Int) + k) = f := by rw [← hf]; simp [IntKind.wrap, IntKind.bits, IntKind.signed]; omega
                    clear hf
                    by_cases g1 : t ≤ (j : Int)
                    · by_cases g2 : (j : Int) < e
                      · by_cases g3 : t ≤ f
                        · by_cases g4 : f < e
                          · skip
                            have d1 : decide (t ≤ (j : Int)) = true := decide_eq_true g1
                            have d2 : decide ((j : Int) < e) = true := decide_eq_true g2
                            have d3 : decide (t ≤ f) = true := decide_eq_true g3
                            have d4 : decide (f < e) = true := decide_eq_true g4
                            have EQ : Hid (∀ q, Calls Try.prog 22 #[.slice rs2[j].1 rs2[j].2.2.length rs2[j].2.1, .slice rs[j].1 rs[j].2.2.length rs[j].2.1] (w6.drewN (m + q)) fun e' w' => e' = .returned (.bool true) ∧ ∃ n, w' = w6.drewN (m + n)) := Lib.hid (fun q => by
                              refine (samerow_any _ _ _ _ w6.heap.size rs2[j].2.2 rs[j].2.2 (w6.drewN (m + q)) (x1.drewN _) (y1.drewN _) x2 y2).mono ?_
                              rintro e' w' ⟨rfl, n, rfl⟩
                              exact ⟨by rw [decide_eq_true ra], q + n, by simp [Nat.add_assoc]⟩)
                            clear h2 h0 x1 x2 x3 y1 y2 y3 ra
                            generalize rs2[j] = xr at *
                            generalize rs[j] = yr at *
                            go_wp2_with fail
                            go_quiet ((go_at_call 22; exact EQ.out _))
                            go_wp2
                            go_roundw
                            case rel => exact ⟨j + 1, m + nq, by go_num, hlt, by simp⟩
                            case measure => simp [intOf] <;> omega
                          · skip
                            have d1 : decide (t ≤ (j : Int)) = true := decide_eq_true g1
                            have d2 : decide ((j : Int) < e) = true := decide_eq_true g2
                            have d3 : decide (t ≤ f) = true := decide_eq_true g3
                            have d4 : decide (f < e) = false := decide_eq_false g4
                            skip
                            clear h2 h0 x1 x2 x3 y1 y2 y3 ra
                            generalize rs2[j] = xr at *
                            generalize rs[j] = yr at *
                            go_wp2_with fail
                            go_quiet (fail)
                            go_wp2
                            go_roundw
                            case rel => exact ⟨j + 1, m + nq, by go_num, hlt, by simp⟩
                            case measure => simp [intOf] <;> omega
                        · skip
                          have d1 : decide (t ≤ (j : Int)) = true := decide_eq_true g1
                          have d2 : decide ((j : Int) < e) = true := decide_eq_true g2
                          have d3 : decide (t ≤ f) = false := decide_eq_false g3
                          skip
                          clear h2 h0 x1 x2 x3 y1 y2 y3 ra
                          generalize rs2[j] = xr at *
                          generalize rs[j] = yr at *
                          go_wp2_with fail
                          go_quiet (fail)
                          go_wp2
                          go_roundw
                          case rel => exact ⟨j + 1, m + nq, by go_num, hlt, by simp⟩
                          case measure => simp [intOf] <;> omega
                      · skip
                        have d1 : decide (t ≤ (j : Int)) = true := decide_eq_true g1
                        have d2 : decide ((j : Int) < e) = false := decide_eq_false g2
                        skip
                        clear h2 h0 x1 x2 x3 y1 y2 y3 ra
                        generalize rs2[j] = xr at *
                        generalize rs[j] = yr at *
                        go_wp2_with fail
                        go_quiet (fail)
                        go_wp2
                        go_roundw
                        case rel => exact ⟨j + 1, m + nq, by go_num, hlt, by simp⟩
                        case measure => simp [intOf] <;> omega
                    · skip
                      have d1 : decide (t ≤ (j : Int)) = false := decide_eq_false g1
                      skip
                      clear h2 h0 x1 x2 x3 y1 y2 y3 ra
                      generalize rs2[j] = xr at *
                      generalize rs[j] = yr at *
                      go_wp2_with fail
                      go_quiet (fail)
                      go_wp2
                      go_roundw
                      case rel => exact ⟨j + 1, m + nq, by go_num, hlt, by simp⟩
                      case measure => simp [intOf] <;> omega
                  · obtain rfl : j = rs.length := by omega
                    have b8 := Lib.hid (below_drewN b7.out m)
                    clear hrv hrv2 RA
                    go_wp2_with fail
                    refine (awake_any _).mono ?_
                    rintro e' w9 ⟨rfl, b9⟩
                    go_wp2_with fail
                    go_ret
                    exact ⟨rfl, b8.out.trans (b9.mono b8.out.size)⟩
    · have hh' : (ah != (ars.length : Int)) = true := C.bne_t hh
      clear RW FN HA HGL hh
      go_wp2_with fail
      refine (awake_any _).mono ?_
      rintro e' w9 ⟨rfl, b9⟩
      go_wp2_with fail
      go_ret
      exact ⟨rfl, b1.trans (b9.mono b1.size)⟩
end Go.Proofs.Ythohninbelhddaa
