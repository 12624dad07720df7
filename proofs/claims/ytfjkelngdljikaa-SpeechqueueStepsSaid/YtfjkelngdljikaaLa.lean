/-
  The law Advance of layer 44. By an AI agent.
-/
import Derived.Test.YtfjkelngdljikaaLh
namespace Go.Proofs.Ytfjkelngdljikaa
set_option linter.unusedVariables false
set_option linter.unusedSimpArgs false
open Go.RowKit Go.Joins Go.Deep

theorem Q.Qm.hq_eta (q : Q.Qm) : q = ⟨q.clock, q.rate, q.sp, ⟨⟨q.cur.u.words, q.cur.u.chs, q.cur.u.cl, q.cur.u.af, q.cur.u.up⟩, q.cur.aw, q.cur.cw, q.cur.ac, q.cur.cc⟩, q.be, q.en, q.items, q.ai, q.ci⟩ := rfl
set_option maxRecDepth 100000 in
set_option maxHeartbeats 4000000 in
theorem advlaw_any (q : Q.Qm) (time : Int) (w : World) (hq : Q.QGood w q) :
    Calls Try.prog 5 #[.agg q.cells.toArray, .int .i64 time] w fun e w' => e = .returned (.bool true) ∧ Below w.heap.size w w' := by
  have b0 := below_box w (.cells q.cells.toArray 28)
  have H0 := Q.HQ.new (W := w) (q := q) rfl hq.i
  have RT := Q.right_hq H0.i hq.len hq.fits hq.cur
  have AWK := Lib.hid awake_any
  rcases Q.right_cases q.a with hr | ⟨hr, hc, hs⟩
  case inl =>
    rw [hr] at RT
    have k := Q.hq_cells (q.hq_eta ▸ H0)
    have B0 := Lib.hid b0
    obtain ⟨ck, rt, sp, ⟨⟨p0, p1, p2, p3, p4⟩, a0, c0, a1, c1⟩, be, en, it, ai, ci⟩ := q
    simp only [Q.Qm.cells] at RT B0 k ⊢
    obtain ⟨k0, k1, k2, k3, k4, k5, k6, k7, k8, k9, k10⟩ := k
    replace RT := Lib.hid RT
    clear hq H0 b0 hr 
    go_enter Try.func5, Try.ntmps5
    go_wp2_with (first
      | (go_at_call 11; refine RT.out.mono ?_; clear RT; rintro e w1 ⟨rfl, b1⟩; (have B1 := Lib.hid (B0.out.trans (b1.mono B0.out.size))))
      | (go_at_call 13; refine (AWK.out _).mono ?_; rintro e w2 ⟨rfl, b2⟩))
    go_ret
    exact ⟨rfl, B1.out.trans (b2.mono B1.out.size)⟩
  rw [hr] at RT
  obtain ⟨X1, X2, n, hX⟩ : ∃ X1 X2 n, q.a.advR time = (X1, X2, n) := ⟨_, _, _, rfl⟩
  have FX := Q.advR_facts (time := time) hs hc
  have AD := Lib.hid (fun (W : World) (h : Q.QIn W W.heap.size q) => Q.advance_hq time h hs hc)
  have AR := Lib.hid (fun (W : World) (h : Q.QIn W W.heap.size q) => Q.refadvance_hq time h hs hc)
  rw [hX] at FX AD AR
  have R1 := Lib.hid (fun (W : World) (h : Q.QIn W W.heap.size q) => Q.rest_hq h hs hc)
  have R2 := Lib.hid (fun (W : World) (h : Q.QIn W W.heap.size q) => Q.refrest_hq h hs hc)
  obtain ⟨fv, hfv⟩ : ∃ fv, Q.fin q.a = fv := ⟨_, rfl⟩
  rw [hfv] at R1 R2
  have HQ0 := Lib.hid H0
  have B0 := Lib.hid b0
  simp only at FX
  obtain ⟨fx1, fx2, fx3, fx4⟩ := FX
  have XS := Lib.hid fx1
  have XL := Lib.hid fx2
  have XR := Lib.hid fx3
  obtain ⟨ck, rt, sp, ⟨⟨p0, p1, p2, p3, p4⟩, a0, c0, a1, c1⟩, be, en, it, ai, ci⟩ := q
  obtain ⟨k0, k1, k2, k3, k4, k5, k6, k7, k8, k9, k10⟩ := Q.hq_cells H0
  simp only [Q.Qm.cells] at RT AD AR R1 R2 B0 HQ0 k0 k1 k2 k3 k4 k5 k6 k7 k8 k9 k10 ⊢
  replace RT := Lib.hid RT
  clear hq H0 b0 hr hfv hX hs hc fx1 fx2 fx3
  rcases fx4 with ⟨rfl, hck⟩ | hn
  · have HCK := Lib.hid hck
    clear hck
    go_enter Try.func5, Try.ntmps5
    go_wp2_with (first
      | (go_at_call 11; (refine RT.out.mono ?_); (clear RT); (rintro e w1 ⟨rfl, b1⟩); (have H1 := HQ0.out.below b1); (obtain ⟨u0, u1, u2, u3, u4, u5, u6, u7, u8, u9, u10⟩ := Q.hq_cells H1); (have B1 := Lib.hid (B0.out.trans (b1.mono B0.out.size))); (have HQ1 := Lib.hid H1); (clear b1 H1 k0 k1 k2 k3 k4 k5 k6 k7 k8 k9 k10))
      | (go_at_call 24; (refine (AD.out _ HQ1.out.i).mono ?_); (clear AD); (rintro e w3 ⟨⟨ck5, rt5, sp5, ⟨⟨p05, p15, p25, p35, p45⟩, a05, c05, a15, c15⟩, be5, en5, it5, ai5, ci5⟩, A5, d5, ss5, rfl, e5, es5, i5, r5, hd5, b3⟩); (have H3 := HQ1.out.below b3); (have bx := below_box w3 (.cells #[.int .i64 ck5, .int .i64 rt5, .bool sp5, .slice a05 p05.length c05, .slice a15 p15.length c15, .int .i64 p25, .int .i64 p35, .int .i64 p45, .int .i64 be5, .int .i64 en5, .slice ai5 it5.length ci5] 28)); (have H3x := H3.below bx); (obtain ⟨v0, v1, v2, v3, v4, v5, v6, v7, v8, v9, v10⟩ := Q.hq_cells H3x); (have H5 := Lib.hid (Q.HQ.new (W := w3) (C := #[.int .i64 ck5, .int .i64 rt5, .bool sp5, .slice a05 p05.length c05, .slice a15 p15.length c15, .int .i64 p25, .int .i64 p35, .int .i64 p45, .int .i64 be5, .int .i64 en5, .slice ai5 it5.length ci5]) (q := (⟨ck5, rt5, sp5, ⟨⟨p05, p15, p25, p35, p45⟩, a05, c05, a15, c15⟩, be5, en5, it5, ai5, ci5⟩ : Q.Qm)) rfl i5)); (have HQ3 := Lib.hid H3x); (have B3 := Lib.hid ((B1.out.trans (b3.mono B1.out.size)).trans (bx.mono (Nat.le_trans B1.out.size b3.size)))); (have RS5 := Lib.hid (r5.on bx)); (have E5 := Lib.hid e5); (have ES5 := Lib.hid es5); (simp only [Q.Qm.cells]); (clear b3 bx H3 H3x i5 r5 e5 es5 hd5 u0 u1 u2 u3 u4 u5 u6 u7 u8 u9 u10))
      | (go_at_call 25; (refine (AR.out _ HQ3.out.i).mono ?_); (clear AR); (rintro e w4 ⟨⟨ck8, rt8, sp8, ⟨⟨p08, p18, p28, p38, p48⟩, a08, c08, a18, c18⟩, be8, en8, it8, ai8, ci8⟩, A8, d8, ss8, rfl, e8, es8, i8, r8, hd8, b4⟩); (have bx := below_box w4 (.cells #[.int .i64 ck8, .int .i64 rt8, .bool sp8, .slice a08 p08.length c08, .slice a18 p18.length c18, .int .i64 p28, .int .i64 p38, .int .i64 p48, .int .i64 be8, .int .i64 en8, .slice ai8 it8.length ci8] 28)); (have H4x := (HQ3.out.below b4).below bx); (have H5x := (H5.out.below b4).below bx); (obtain ⟨y0, y1, y2, y3, y4, y5, y6, y7, y8, y9, y10⟩ := Q.hq_cells H5x); (have H8 := Q.HQ.new (W := w4) (C := #[.int .i64 ck8, .int .i64 rt8, .bool sp8, .slice a08 p08.length c08, .slice a18 p18.length c18, .int .i64 p28, .int .i64 p38, .int .i64 p48, .int .i64 be8, .int .i64 en8, .slice ai8 it8.length ci8]) (q := (⟨ck8, rt8, sp8, ⟨⟨p08, p18, p28, p38, p48⟩, a08, c08, a18, c18⟩, be8, en8, it8, ai8, ci8⟩ : Q.Qm)) rfl i8); (obtain ⟨z0, z1, z2, z3, z4, z5, z6, z7, z8, z9, z10⟩ := Q.hq_cells H8); (have SA := Lib.hid (Q.same_hq H5x.i H8.i (E5.out.trans e8.symm) (by rw [E5.out]; exact XS.out))); (have SR := Lib.hid (fun (W : World) (hb : Below (w4.alloc (.cells #[.int .i64 ck8, .int .i64 rt8, .bool sp8, .slice a08 p08.length c08, .slice a18 p18.length c18, .int .i64 p28, .int .i64 p38, .int .i64 p48, .int .i64 be8, .int .i64 en8, .slice ai8 it8.length ci8] 28)).heap.size (w4.alloc (.cells #[.int .i64 ck8, .int .i64 rt8, .bool sp8, .slice a08 p08.length c08, .slice a18 p18.length c18, .int .i64 p28, .int .i64 p38, .int .i64 p48, .int .i64 be8, .int .i64 en8, .slice ai8 it8.length ci8] 28)) W) => Q.reps_hq (c1 := d5) (c2 := d8) (((RS5.out.on b4).on bx).on hb) ((r8.on bx).on hb) (ES5.out.trans es8.symm) (by rw [ES5.out]; exact Nat.le_trans XL.out (by decide)) (by rw [ES5.out]; exact XR.out))); (have HQ4 := Lib.hid H4x); (have H5y := Lib.hid H5x); (have B4 := Lib.hid ((B3.out.trans (b4.mono B3.out.size)).trans (bx.mono (Nat.le_trans B3.out.size b4.size)))); (simp only [Q.Qm.cells] at SA); (simp only [Q.Qm.cells]); (clear b4 bx H4x H5x H8 i8 r8 e8 es8 hd8 H5 RS5 ES5 HQ3 v0 v1 v2 v3 v4 v5 v6 v7 v8 v9 v10))
      | (go_at_call 16; (refine SA.out.mono ?_); (clear SA); (rintro e w5 ⟨rfl, b5⟩); (have SR5 := Lib.hid (SR.out w5 b5)); (have b5h := Lib.hid b5); (clear SR b5 y0 y1 y2 y3 y4 y5 y6 y7 y8 y9 y10 z0 z1 z2 z3 z4 z5 z6 z7 z8 z9 z10))
      | (go_at_call 26; (refine SR5.out.mono ?_); (clear SR5); (rintro e w6 ⟨rfl, b6⟩); (have H5z := (H5y.out.below b5h.out).below b6); (obtain ⟨y0, y1, y2, y3, y4, y5, y6, y7, y8, y9, y10⟩ := Q.hq_cells H5z); (have HQ6 := (HQ4.out.below b5h.out).below b6); (obtain ⟨z0, z1, z2, z3, z4, z5, z6, z7, z8, z9, z10⟩ := Q.hq_cells HQ6); (have B6 := Lib.hid ((B4.out.trans (b5h.out.mono B4.out.size)).trans (b6.mono (Nat.le_trans B4.out.size b5h.out.size)))); (have HQ6h := Lib.hid HQ6); (have CK := Lib.hid (Q.check_hq H5z.i (by rw [E5.out]; exact XS.out))); (rw [E5.out, HCK.out] at CK); (simp only [Q.Qm.cells] at CK); (clear b6 H5z HQ6 H5y HQ4 b5h))
      | (go_at_call 17; (refine CK.out.mono ?_); (clear CK); (rintro e w7 ⟨rfl, b7⟩); (have HQ7 := HQ6h.out.below b7); (obtain ⟨z0, z1, z2, z3, z4, z5, z6, z7, z8, z9, z10⟩ := Q.hq_cells HQ7); (have B7 := Lib.hid (B6.out.trans (b7.mono B6.out.size))); (have HQ7h := Lib.hid HQ7); (clear b7 HQ7 HQ6h y0 y1 y2 y3 y4 y5 y6 y7 y8 y9 y10)))
    obtain ⟨W7, hW7⟩ : ∃ W, w7 = W := ⟨_, rfl⟩
    obtain ⟨N, hN⟩ : ∃ N, w.heap.size = N := ⟨_, rfl⟩
    have HN := Lib.hid hN
    rw [hW7, hN] at HQ7h B7 ⊢
    clear z0 z1 z2 z3 z4 z5 z6 z7 z8 z9 z10
    have CELL : Hid (∀ W : World, Below W7.heap.size W7 W → (W.cell? ⟨N, 0, none⟩ = some (.int .i64 ck) ∧ W.cell? ⟨N, 1, none⟩ = some (.int .i64 rt) ∧ W.cell? ⟨N, 2, none⟩ = some (.bool sp) ∧ W.cell? ⟨N, 3, none⟩ = some (.slice a0 p0.length c0) ∧ W.cell? ⟨N, 4, none⟩ = some (.slice a1 p1.length c1) ∧ W.cell? ⟨N, 5, none⟩ = some (.int .i64 p2) ∧ W.cell? ⟨N, 6, none⟩ = some (.int .i64 p3) ∧ W.cell? ⟨N, 7, none⟩ = some (.int .i64 p4) ∧ W.cell? ⟨N, 8, none⟩ = some (.int .i64 be) ∧ W.cell? ⟨N, 9, none⟩ = some (.int .i64 en) ∧ W.cell? ⟨N, 10, none⟩ = some (.slice ai it.length ci))) := Lib.hid (fun W hb => Q.hq_cells (HQ7h.out.below hb))
    refine wp_normal ?_
    refine wp_region_held_drew (S := fun w' => w'.cell? ⟨N, 0, none⟩ = some (.int .i64 ck) ∧ w'.cell? ⟨N, 1, none⟩ = some (.int .i64 rt) ∧ w'.cell? ⟨N, 2, none⟩ = some (.bool sp) ∧ w'.cell? ⟨N, 3, none⟩ = some (.slice a0 p0.length c0) ∧ w'.cell? ⟨N, 4, none⟩ = some (.slice a1 p1.length c1) ∧ w'.cell? ⟨N, 5, none⟩ = some (.int .i64 p2) ∧ w'.cell? ⟨N, 6, none⟩ = some (.int .i64 p3) ∧ w'.cell? ⟨N, 7, none⟩ = some (.int .i64 p4) ∧ w'.cell? ⟨N, 8, none⟩ = some (.int .i64 be) ∧ w'.cell? ⟨N, 9, none⟩ = some (.int .i64 en) ∧ w'.cell? ⟨N, 10, none⟩ = some (.slice ai it.length ci)) (by kernel_rfl) (CELL.out _ (Below.refl _ W7).drew) (fun hHeld => ?_)
    obtain ⟨wd, hwd⟩ : ∃ wd, W7.drew = wd := ⟨_, rfl⟩
    have bd : Below W7.heap.size W7 wd := by rw [← hwd]; exact (Below.refl _ W7).drew
    rw [hwd] at hHeld ⊢
    clear hwd hW7 hN
    refine tk 0 rfl (by kernel_rfl) hHeld (fun _ _ _ h => h) (v := ?_) ?_ ?_
    rotate_left 1
    · (intro w hSw; (try dsimp only at hSw); (try simp only [List.getElem_toArray, List.getElem_cons_succ, List.getElem_cons_zero]); go_simp) <;> (with_reducible rfl)
    try simp only [List.getElem_toArray, List.getElem_cons_succ, List.getElem_cons_zero, Act.put, List.setIfInBounds_toArray, List.set_cons_zero, List.set_cons_succ]
    refine tk 2 rfl (by kernel_rfl) hHeld (fun _ _ _ h => h) (v := ?_) ?_ ?_
    rotate_left 1
    · (intro w hSw; (try dsimp only at hSw); (try simp only [List.getElem_toArray, List.getElem_cons_succ, List.getElem_cons_zero]); go_simp) <;> (with_reducible rfl)
    try simp only [List.getElem_toArray, List.getElem_cons_succ, List.getElem_cons_zero, Act.put, List.setIfInBounds_toArray, List.set_cons_zero, List.set_cons_succ]
    refine wpAnyH_ready (rs := [1]) (by kernel_rfl) (by simp) (AllReadyH.cons rfl (fun K hK => ?_) AllReadyH.nil)
    simp only [List.getElem_toArray, List.getElem_cons_succ, List.getElem_cons_zero]
    go_simp
    go_at_call 27
    refine (R1.out wd (HQ7h.out.below bd).i).mono ?_
    rintro e wa ⟨rfl, bz⟩
    try go_wp2_with fail
    have ba := bd.trans (bz.mono bd.size)
    refine hK.out _ _ (CELL.out _ ba) (fun hHeld => ?_)
    clear hK K bz
    try simp only [List.getElem_toArray, List.getElem_cons_succ, List.getElem_cons_zero, Act.put, List.setIfInBounds_toArray, List.set_cons_zero, List.set_cons_succ]
    refine wpAnyH_ready (rs := [3]) (by kernel_rfl) (by simp) (AllReadyH.cons rfl (fun K hK => ?_) AllReadyH.nil)
    simp only [List.getElem_toArray, List.getElem_cons_succ, List.getElem_cons_zero]
    go_simp
    go_at_call 28
    refine (R2.out wa (HQ7h.out.below ba).i).mono ?_
    rintro e wb ⟨rfl, bz⟩
    try go_wp2_with fail
    have bb := ba.trans (bz.mono ba.size)
    refine hK.out _ _ (CELL.out _ bb) (fun hHeld => ?_)
    clear hK K bz
    try simp only [List.getElem_toArray, List.getElem_cons_succ, List.getElem_cons_zero, Act.put, List.setIfInBounds_toArray, List.set_cons_zero, List.set_cons_succ]
    refine tk 4 rfl (by kernel_rfl) hHeld (fun _ _ _ h => h) (v := ?_) ?_ ?_
    rotate_left 1
    · (intro w hSw; (try dsimp only at hSw); (try simp only [List.getElem_toArray, List.getElem_cons_succ, List.getElem_cons_zero]); go_simp) <;> (with_reducible rfl)
    try simp only [List.getElem_toArray, List.getElem_cons_succ, List.getElem_cons_zero, Act.put, List.setIfInBounds_toArray, List.set_cons_zero, List.set_cons_succ]
    refine tk 5 rfl (by kernel_rfl) hHeld (fun _ _ _ h => h) (v := ?_) ?_ ?_
    rotate_left 1
    · (intro w hSw; (try dsimp only at hSw); (try simp only [List.getElem_toArray, List.getElem_cons_succ, List.getElem_cons_zero]); go_simp) <;> (with_reducible rfl)
    try simp only [List.getElem_toArray, List.getElem_cons_succ, List.getElem_cons_zero, Act.put, List.setIfInBounds_toArray, List.set_cons_zero, List.set_cons_succ]
    refine wpAnyH_ready (rs := [6]) (by kernel_rfl) (by simp) (AllReadyH.cons rfl (fun K hK => ?_) AllReadyH.nil)
    simp only [List.getElem_toArray, List.getElem_cons_succ, List.getElem_cons_zero]
    go_simp
    go_at_call 13
    refine (AWK.out wb).mono ?_
    rintro e wc ⟨rfl, bz⟩
    try go_wp2_with fail
    have bc := bb.trans (bz.mono bb.size)
    refine hK.out _ _ (CELL.out _ bc) (fun hHeld => ?_)
    clear hK K bz
    try simp only [List.getElem_toArray, List.getElem_cons_succ, List.getElem_cons_zero, Act.put, List.setIfInBounds_toArray, List.set_cons_zero, List.set_cons_succ]
    refine tk 7 rfl (by kernel_rfl) hHeld (fun _ _ _ h => h) (v := ?_) ?_ ?_
    rotate_left 1
    · (intro w hSw; (try dsimp only at hSw); (try simp only [List.getElem_toArray, List.getElem_cons_succ, List.getElem_cons_zero]); go_simp) <;> (with_reducible rfl)
    try simp only [List.getElem_toArray, List.getElem_cons_succ, List.getElem_cons_zero, Act.put, List.setIfInBounds_toArray, List.set_cons_zero, List.set_cons_succ]
    refine tk 8 rfl (by kernel_rfl) hHeld (fun _ _ _ h => h) (v := ?_) ?_ ?_
    rotate_left 1
    · (intro w hSw; (try dsimp only at hSw); (try simp only [List.getElem_toArray, List.getElem_cons_succ, List.getElem_cons_zero]); go_simp) <;> (with_reducible rfl)
    try simp only [List.getElem_toArray, List.getElem_cons_succ, List.getElem_cons_zero, Act.put, List.setIfInBounds_toArray, List.set_cons_zero, List.set_cons_succ]
    refine wpAnyH_done (by kernel_rfl) ?_ _
    go_wp2_with fail
    go_ret
    exact ⟨rfl, by rw [HN.out]; exact B7.out.trans (bc.mono (by have := B7.out.size; have := HN.out; omega))⟩
  · have hn2 : (n == 0) = false := by rcases hn with rfl | rfl <;> rfl
    have hn3 : (n != n) = false := by simp
    clear hn
    go_enter Try.func5, Try.ntmps5
    go_wp2_with (first
      | (go_at_call 11; (refine RT.out.mono ?_); (clear RT); (rintro e w1 ⟨rfl, b1⟩); (have H1 := HQ0.out.below b1); (obtain ⟨u0, u1, u2, u3, u4, u5, u6, u7, u8, u9, u10⟩ := Q.hq_cells H1); (have B1 := Lib.hid (B0.out.trans (b1.mono B0.out.size))); (have HQ1 := Lib.hid H1); (clear b1 H1 k0 k1 k2 k3 k4 k5 k6 k7 k8 k9 k10))
      | (go_at_call 24; (refine (AD.out _ HQ1.out.i).mono ?_); (clear AD); (rintro e w3 ⟨⟨ck5, rt5, sp5, ⟨⟨p05, p15, p25, p35, p45⟩, a05, c05, a15, c15⟩, be5, en5, it5, ai5, ci5⟩, A5, d5, ss5, rfl, e5, es5, i5, r5, hd5, b3⟩); (have H3 := HQ1.out.below b3); (have bx := below_box w3 (.cells #[.int .i64 ck5, .int .i64 rt5, .bool sp5, .slice a05 p05.length c05, .slice a15 p15.length c15, .int .i64 p25, .int .i64 p35, .int .i64 p45, .int .i64 be5, .int .i64 en5, .slice ai5 it5.length ci5] 28)); (have H3x := H3.below bx); (obtain ⟨v0, v1, v2, v3, v4, v5, v6, v7, v8, v9, v10⟩ := Q.hq_cells H3x); (have H5 := Lib.hid (Q.HQ.new (W := w3) (C := #[.int .i64 ck5, .int .i64 rt5, .bool sp5, .slice a05 p05.length c05, .slice a15 p15.length c15, .int .i64 p25, .int .i64 p35, .int .i64 p45, .int .i64 be5, .int .i64 en5, .slice ai5 it5.length ci5]) (q := (⟨ck5, rt5, sp5, ⟨⟨p05, p15, p25, p35, p45⟩, a05, c05, a15, c15⟩, be5, en5, it5, ai5, ci5⟩ : Q.Qm)) rfl i5)); (have HQ3 := Lib.hid H3x); (have B3 := Lib.hid ((B1.out.trans (b3.mono B1.out.size)).trans (bx.mono (Nat.le_trans B1.out.size b3.size)))); (have RS5 := Lib.hid (r5.on bx)); (have E5 := Lib.hid e5); (have ES5 := Lib.hid es5); (simp only [Q.Qm.cells]); (clear b3 bx H3 H3x i5 r5 e5 es5 hd5 u0 u1 u2 u3 u4 u5 u6 u7 u8 u9 u10))
      | (go_at_call 25; (refine (AR.out _ HQ3.out.i).mono ?_); (clear AR); (rintro e w4 ⟨⟨ck8, rt8, sp8, ⟨⟨p08, p18, p28, p38, p48⟩, a08, c08, a18, c18⟩, be8, en8, it8, ai8, ci8⟩, A8, d8, ss8, rfl, e8, es8, i8, r8, hd8, b4⟩); (have bx := below_box w4 (.cells #[.int .i64 ck8, .int .i64 rt8, .bool sp8, .slice a08 p08.length c08, .slice a18 p18.length c18, .int .i64 p28, .int .i64 p38, .int .i64 p48, .int .i64 be8, .int .i64 en8, .slice ai8 it8.length ci8] 28)); (have H4x := (HQ3.out.below b4).below bx); (have H5x := (H5.out.below b4).below bx); (obtain ⟨y0, y1, y2, y3, y4, y5, y6, y7, y8, y9, y10⟩ := Q.hq_cells H5x); (have H8 := Q.HQ.new (W := w4) (C := #[.int .i64 ck8, .int .i64 rt8, .bool sp8, .slice a08 p08.length c08, .slice a18 p18.length c18, .int .i64 p28, .int .i64 p38, .int .i64 p48, .int .i64 be8, .int .i64 en8, .slice ai8 it8.length ci8]) (q := (⟨ck8, rt8, sp8, ⟨⟨p08, p18, p28, p38, p48⟩, a08, c08, a18, c18⟩, be8, en8, it8, ai8, ci8⟩ : Q.Qm)) rfl i8); (obtain ⟨z0, z1, z2, z3, z4, z5, z6, z7, z8, z9, z10⟩ := Q.hq_cells H8); (have SA := Lib.hid (Q.same_hq H5x.i H8.i (E5.out.trans e8.symm) (by rw [E5.out]; exact XS.out))); (have SR := Lib.hid (fun (W : World) (hb : Below (w4.alloc (.cells #[.int .i64 ck8, .int .i64 rt8, .bool sp8, .slice a08 p08.length c08, .slice a18 p18.length c18, .int .i64 p28, .int .i64 p38, .int .i64 p48, .int .i64 be8, .int .i64 en8, .slice ai8 it8.length ci8] 28)).heap.size (w4.alloc (.cells #[.int .i64 ck8, .int .i64 rt8, .bool sp8, .slice a08 p08.length c08, .slice a18 p18.length c18, .int .i64 p28, .int .i64 p38, .int .i64 p48, .int .i64 be8, .int .i64 en8, .slice ai8 it8.length ci8] 28)) W) => Q.reps_hq (c1 := d5) (c2 := d8) (((RS5.out.on b4).on bx).on hb) ((r8.on bx).on hb) (ES5.out.trans es8.symm) (by rw [ES5.out]; exact Nat.le_trans XL.out (by decide)) (by rw [ES5.out]; exact XR.out))); (have HQ4 := Lib.hid H4x); (have H5y := Lib.hid H5x); (have B4 := Lib.hid ((B3.out.trans (b4.mono B3.out.size)).trans (bx.mono (Nat.le_trans B3.out.size b4.size)))); (simp only [Q.Qm.cells] at SA); (simp only [Q.Qm.cells]); (clear b4 bx H4x H5x H8 i8 r8 e8 es8 hd8 H5 RS5 ES5 HQ3 v0 v1 v2 v3 v4 v5 v6 v7 v8 v9 v10))
      | (go_at_call 16; (refine SA.out.mono ?_); (clear SA); (rintro e w5 ⟨rfl, b5⟩); (have SR5 := Lib.hid (SR.out w5 b5)); (have b5h := Lib.hid b5); (clear SR b5 y0 y1 y2 y3 y4 y5 y6 y7 y8 y9 y10 z0 z1 z2 z3 z4 z5 z6 z7 z8 z9 z10))
      | (go_at_call 26; (refine SR5.out.mono ?_); (clear SR5); (rintro e w6 ⟨rfl, b6⟩); (have H5z := (H5y.out.below b5h.out).below b6); (obtain ⟨y0, y1, y2, y3, y4, y5, y6, y7, y8, y9, y10⟩ := Q.hq_cells H5z); (have HQ6 := (HQ4.out.below b5h.out).below b6); (obtain ⟨z0, z1, z2, z3, z4, z5, z6, z7, z8, z9, z10⟩ := Q.hq_cells HQ6); (have B6 := Lib.hid ((B4.out.trans (b5h.out.mono B4.out.size)).trans (b6.mono (Nat.le_trans B4.out.size b5h.out.size)))); (have HQ6h := Lib.hid HQ6); (clear b6 H5z HQ6 H5y HQ4 b5h)))
    obtain ⟨W7, hW7⟩ : ∃ W, w6 = W := ⟨_, rfl⟩
    obtain ⟨N, hN⟩ : ∃ N, w.heap.size = N := ⟨_, rfl⟩
    have HN := Lib.hid hN
    rw [hW7, hN] at HQ6h B6 ⊢
    clear z0 z1 z2 z3 z4 z5 z6 z7 z8 z9 z10 y0 y1 y2 y3 y4 y5 y6 y7 y8 y9 y10
    have CELL : Hid (∀ W : World, Below W7.heap.size W7 W → (W.cell? ⟨N, 0, none⟩ = some (.int .i64 ck) ∧ W.cell? ⟨N, 1, none⟩ = some (.int .i64 rt) ∧ W.cell? ⟨N, 2, none⟩ = some (.bool sp) ∧ W.cell? ⟨N, 3, none⟩ = some (.slice a0 p0.length c0) ∧ W.cell? ⟨N, 4, none⟩ = some (.slice a1 p1.length c1) ∧ W.cell? ⟨N, 5, none⟩ = some (.int .i64 p2) ∧ W.cell? ⟨N, 6, none⟩ = some (.int .i64 p3) ∧ W.cell? ⟨N, 7, none⟩ = some (.int .i64 p4) ∧ W.cell? ⟨N, 8, none⟩ = some (.int .i64 be) ∧ W.cell? ⟨N, 9, none⟩ = some (.int .i64 en) ∧ W.cell? ⟨N, 10, none⟩ = some (.slice ai it.length ci))) := Lib.hid (fun W hb => Q.hq_cells (HQ6h.out.below hb))
    refine wp_normal ?_
    refine wp_region_held_drew (S := fun w' => w'.cell? ⟨N, 0, none⟩ = some (.int .i64 ck) ∧ w'.cell? ⟨N, 1, none⟩ = some (.int .i64 rt) ∧ w'.cell? ⟨N, 2, none⟩ = some (.bool sp) ∧ w'.cell? ⟨N, 3, none⟩ = some (.slice a0 p0.length c0) ∧ w'.cell? ⟨N, 4, none⟩ = some (.slice a1 p1.length c1) ∧ w'.cell? ⟨N, 5, none⟩ = some (.int .i64 p2) ∧ w'.cell? ⟨N, 6, none⟩ = some (.int .i64 p3) ∧ w'.cell? ⟨N, 7, none⟩ = some (.int .i64 p4) ∧ w'.cell? ⟨N, 8, none⟩ = some (.int .i64 be) ∧ w'.cell? ⟨N, 9, none⟩ = some (.int .i64 en) ∧ w'.cell? ⟨N, 10, none⟩ = some (.slice ai it.length ci)) (by kernel_rfl) (CELL.out _ (Below.refl _ W7).drew) (fun hHeld => ?_)
    obtain ⟨wd, hwd⟩ : ∃ wd, W7.drew = wd := ⟨_, rfl⟩
    have bd : Below W7.heap.size W7 wd := by rw [← hwd]; exact (Below.refl _ W7).drew
    rw [hwd] at hHeld ⊢
    clear hwd hW7 hN
    refine tk 0 rfl (by kernel_rfl) hHeld (fun _ _ _ h => h) (v := ?_) ?_ ?_
    rotate_left 1
    · (intro w hSw; (try dsimp only at hSw); (try simp only [List.getElem_toArray, List.getElem_cons_succ, List.getElem_cons_zero]); go_simp) <;> (with_reducible rfl)
    try simp only [List.getElem_toArray, List.getElem_cons_succ, List.getElem_cons_zero, Act.put, List.setIfInBounds_toArray, List.set_cons_zero, List.set_cons_succ]
    refine tk 2 rfl (by kernel_rfl) hHeld (fun _ _ _ h => h) (v := ?_) ?_ ?_
    rotate_left 1
    · (intro w hSw; (try dsimp only at hSw); (try simp only [List.getElem_toArray, List.getElem_cons_succ, List.getElem_cons_zero]); go_simp) <;> (with_reducible rfl)
    try simp only [List.getElem_toArray, List.getElem_cons_succ, List.getElem_cons_zero, Act.put, List.setIfInBounds_toArray, List.set_cons_zero, List.set_cons_succ]
    refine wpAnyH_ready (rs := [1]) (by kernel_rfl) (by simp) (AllReadyH.cons rfl (fun K hK => ?_) AllReadyH.nil)
    simp only [List.getElem_toArray, List.getElem_cons_succ, List.getElem_cons_zero]
    go_simp
    go_at_call 27
    refine (R1.out wd (HQ6h.out.below bd).i).mono ?_
    rintro e wa ⟨rfl, bz⟩
    try go_wp2_with fail
    have ba := bd.trans (bz.mono bd.size)
    refine hK.out _ _ (CELL.out _ ba) (fun hHeld => ?_)
    clear hK K bz
    try simp only [List.getElem_toArray, List.getElem_cons_succ, List.getElem_cons_zero, Act.put, List.setIfInBounds_toArray, List.set_cons_zero, List.set_cons_succ]
    refine wpAnyH_ready (rs := [3]) (by kernel_rfl) (by simp) (AllReadyH.cons rfl (fun K hK => ?_) AllReadyH.nil)
    simp only [List.getElem_toArray, List.getElem_cons_succ, List.getElem_cons_zero]
    go_simp
    go_at_call 28
    refine (R2.out wa (HQ6h.out.below ba).i).mono ?_
    rintro e wb ⟨rfl, bz⟩
    try go_wp2_with fail
    have bb := ba.trans (bz.mono ba.size)
    refine hK.out _ _ (CELL.out _ bb) (fun hHeld => ?_)
    clear hK K bz
    try simp only [List.getElem_toArray, List.getElem_cons_succ, List.getElem_cons_zero, Act.put, List.setIfInBounds_toArray, List.set_cons_zero, List.set_cons_succ]
    refine tk 4 rfl (by kernel_rfl) hHeld (fun _ _ _ h => h) (v := ?_) ?_ ?_
    rotate_left 1
    · (intro w hSw; (try dsimp only at hSw); (try simp only [List.getElem_toArray, List.getElem_cons_succ, List.getElem_cons_zero]); go_simp) <;> (with_reducible rfl)
    try simp only [List.getElem_toArray, List.getElem_cons_succ, List.getElem_cons_zero, Act.put, List.setIfInBounds_toArray, List.set_cons_zero, List.set_cons_succ]
    refine tk 5 rfl (by kernel_rfl) hHeld (fun _ _ _ h => h) (v := ?_) ?_ ?_
    rotate_left 1
    · (intro w hSw; (try dsimp only at hSw); (try simp only [List.getElem_toArray, List.getElem_cons_succ, List.getElem_cons_zero]); go_simp) <;> (with_reducible rfl)
    try simp only [List.getElem_toArray, List.getElem_cons_succ, List.getElem_cons_zero, Act.put, List.setIfInBounds_toArray, List.set_cons_zero, List.set_cons_succ]
    refine wpAnyH_ready (rs := [6]) (by kernel_rfl) (by simp) (AllReadyH.cons rfl (fun K hK => ?_) AllReadyH.nil)
    simp only [List.getElem_toArray, List.getElem_cons_succ, List.getElem_cons_zero]
    go_simp
    go_at_call 13
    refine (AWK.out wb).mono ?_
    rintro e wc ⟨rfl, bz⟩
    try go_wp2_with fail
    have bc := bb.trans (bz.mono bb.size)
    refine hK.out _ _ (CELL.out _ bc) (fun hHeld => ?_)
    clear hK K bz
    try simp only [List.getElem_toArray, List.getElem_cons_succ, List.getElem_cons_zero, Act.put, List.setIfInBounds_toArray, List.set_cons_zero, List.set_cons_succ]
    refine tk 7 rfl (by kernel_rfl) hHeld (fun _ _ _ h => h) (v := ?_) ?_ ?_
    rotate_left 1
    · (intro w hSw; (try dsimp only at hSw); (try simp only [List.getElem_toArray, List.getElem_cons_succ, List.getElem_cons_zero]); go_simp) <;> (with_reducible rfl)
    try simp only [List.getElem_toArray, List.getElem_cons_succ, List.getElem_cons_zero, Act.put, List.setIfInBounds_toArray, List.set_cons_zero, List.set_cons_succ]
    refine tk 8 rfl (by kernel_rfl) hHeld (fun _ _ _ h => h) (v := ?_) ?_ ?_
    rotate_left 1
    · (intro w hSw; (try dsimp only at hSw); (try simp only [List.getElem_toArray, List.getElem_cons_succ, List.getElem_cons_zero]); go_simp) <;> (with_reducible rfl)
    try simp only [List.getElem_toArray, List.getElem_cons_succ, List.getElem_cons_zero, Act.put, List.setIfInBounds_toArray, List.set_cons_zero, List.set_cons_succ]
    refine wpAnyH_done (by kernel_rfl) ?_ _
    go_wp2_with fail
    go_ret
    exact ⟨rfl, by rw [HN.out]; exact B6.out.trans (bc.mono (by have := B6.out.size; have := HN.out; omega))⟩
theorem advlaw_row (q : Q.Qm) (time : Int) (w : World) (hq : Q.QGood w q) (_ : -9223372036854775808 ≤ time) (_ : time ≤ 9223372036854775807) :
    Calls Try.prog 5 #[.agg q.cells.toArray, .int .i64 time] w fun e w' => e = .returned (.bool true) ∧ Below w.heap.size w w' := advlaw_any q time w hq
end Go.Proofs.Ytfjkelngdljikaa
