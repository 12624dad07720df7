/-
  The law Rest of layer 44. By an AI agent.
-/
import Derived.Test.YtfjkelngdljikaaLw
import Derived.Test.YtfjkelngdljikaaLa
namespace Go.Proofs.Ytfjkelngdljikaa
set_option linter.unusedVariables false
set_option linter.unusedSimpArgs false
open Go.RowKit Go.Joins Go.Deep

set_option maxRecDepth 100000 in
set_option maxHeartbeats 4000000 in
theorem restlaw_any (q : Q.Qm)  (w : World) (hq : Q.QGood w q) :
    Calls Try.prog 8 #[.agg q.cells.toArray] w fun e w' => e = .returned (.bool true) ∧ Below w.heap.size w w' := by
  have b0 := below_box w (.cells q.cells.toArray 28)
  have H0 := Q.HQ.new (W := w) (q := q) rfl hq.i
  have RT := Q.right_hq H0.i hq.len hq.fits hq.cur
  have AWK := Lib.hid awake_any
  rcases Q.right_cases q.a with hr | ⟨hr, hc, hs⟩
  case inl =>
    rw [hr] at RT
    have k := Q.hq_cells (q.hq_eta ▸ H0)
    have B0 := Lib.hid b0
    obtain ⟨ck, rt, sp, ⟨⟨p0, p1, p2, p3, p4⟩, a0, c0, a1, c1⟩, be, en, it, ai, ci⟩ := q
    simp only [Q.Qm.cells] at RT B0 k ⊢
    obtain ⟨k0, k1, k2, k3, k4, k5, k6, k7, k8, k9, k10⟩ := k
    replace RT := Lib.hid RT
    clear hq H0 b0 hr 
    go_enter Try.func8, Try.ntmps8
    go_wp2_with (first
      | (go_at_call 11; refine RT.out.mono ?_; clear RT; rintro e w1 ⟨rfl, b1⟩; (have B1 := Lib.hid (B0.out.trans (b1.mono B0.out.size))))
      | (go_at_call 13; refine (AWK.out _).mono ?_; rintro e w2 ⟨rfl, b2⟩))
    go_ret
    exact ⟨rfl, B1.out.trans (b2.mono B1.out.size)⟩
  rw [hr] at RT
  obtain ⟨fv, hfv⟩ : ∃ fv, Q.fin q.a = fv := ⟨_, rfl⟩
  have R1 := fun (W : World) (h : Q.QIn W W.heap.size q) => Q.rest_hq h hs hc
  have HQ0 := Lib.hid H0
  have B0 := Lib.hid b0
  simp only [hfv] at R1
  replace R1 := Lib.hid R1
  have hp := Q.chk_proper hc
  by_cases hM : 1099511627776 < fv
  · have gM : decide (1099511627776 < fv) = true := decide_eq_true hM
    obtain ⟨ck, rt, sp, ⟨⟨p0, p1, p2, p3, p4⟩, a0, c0, a1, c1⟩, be, en, it, ai, ci⟩ := q
    obtain ⟨k0, k1, k2, k3, k4, k5, k6, k7, k8, k9, k10⟩ := Q.hq_cells H0
    simp only [Q.Qm.cells] at RT R1 B0 HQ0 k0 k1 k2 k3 k4 k5 k6 k7 k8 k9 k10 ⊢
    replace RT := Lib.hid RT
    clear hq H0 b0 hr hs hc hp hfv hM
    go_enter Try.func8, Try.ntmps8
    go_wp2_with (first
      | (go_at_call 11; (refine RT.out.mono ?_); (clear RT); (rintro e w1 ⟨rfl, b1⟩); (have H1 := HQ0.out.below b1); (obtain ⟨u0, u1, u2, u3, u4, u5, u6, u7, u8, u9, u10⟩ := Q.hq_cells H1); (have B1 := Lib.hid (B0.out.trans (b1.mono B0.out.size))); (have HQ1 := Lib.hid H1); (clear b1 H1 k0 k1 k2 k3 k4 k5 k6 k7 k8 k9 k10))
      | (go_at_call 27; (refine (R1.out _ HQ1.out.i).mono ?_); (clear R1); (rintro e w2 ⟨rfl, b2⟩); (have H2 := HQ1.out.below b2); (obtain ⟨k0, k1, k2, k3, k4, k5, k6, k7, k8, k9, k10⟩ := Q.hq_cells H2); (have B2 := Lib.hid (B1.out.trans (b2.mono B1.out.size))); (have HQ2 := Lib.hid H2); (clear b2 H2 HQ1 B1 u0 u1 u2 u3 u4 u5 u6 u7 u8 u9 u10))
      | (go_at_call 13; (refine (AWK.out _).mono ?_); (rintro e wE ⟨rfl, bE⟩); (have BE := Lib.hid (B2.out.trans (bE.mono B2.out.size))); (clear bE)))
    go_ret
    exact ⟨rfl, BE.out⟩
  have hMle : fv ≤ 1099511627776 := by omega
  obtain ⟨f1, f2, f3, f4, f5⟩ := Q.fin_facts hc hs (by rw [hfv]; exact hMle)
  rw [hfv] at f1 f2 f3 f4 f5
  have gM : decide (1099511627776 < fv) = false := decide_eq_false hM
  have AD1 := fun (W : World) (h : Q.QIn W W.heap.size q) => Q.advance_hq fv h hs hc
  simp only [Q.advR_ok hp.ck.1 f1 hMle] at AD1
  have xc := Q.adv_chk hc hs f1 hMle
  have xs := Q.adv_sml' (time := fv) hs
  rw [f2] at xc xs
  simp only [f2] at AD1
  obtain ⟨X2, hX2⟩ : ∃ X2, (q.a.adv fv).2 = X2 := ⟨_, rfl⟩
  simp only [hX2] at AD1 f3
  have XC := Lib.hid xc
  have XS := Lib.hid xs
  have HM : Hid (fv ≤ 1099511627776) := Lib.hid hMle
  have f0 : 0 ≤ fv := by have := hp.ck.1; omega
  have hit : q.items.length ≤ 8 := by have := hs.1; simpa [Q.Qm.a] using this
  by_cases hz : Q.cnt q.a = 0
  · rw [hz] at f3
    have hck := f4 hz
    have XL := Lib.hid f3
    obtain ⟨ck, rt, sp, ⟨⟨p0, p1, p2, p3, p4⟩, a0, c0, a1, c1⟩, be, en, it, ai, ci⟩ := q
    simp only [Q.cnt, Q.Qm.a, List.length_map] at hz
    obtain rfl : sp = false := by cases sp <;> simp_all
    obtain rfl : it = [] := List.eq_nil_of_length_eq_zero (by simp at hz; simp [hz])
    have gk : (fv == ck) = true := beq_iff_eq.2 hck
    have gz : (((0 : Nat) : Int) == 0) = true := rfl
    obtain ⟨k0, k1, k2, k3, k4, k5, k6, k7, k8, k9, k10⟩ := Q.hq_cells H0
    simp only [Q.Qm.cells, List.length_nil] at RT R1 AD1 B0 HQ0 k0 k1 k2 k3 k4 k5 k6 k7 k8 k9 k10 ⊢
    replace RT := Lib.hid RT
    replace AD1 := Lib.hid AD1
    clear hq H0 b0 hr hs hc hp hfv hM hMle hX2 xc xs f1 f2 f3 f4 f5 hz hck hit
    go_enter Try.func8, Try.ntmps8
    go_wp2_with (first
      | (go_at_call 11; (refine RT.out.mono ?_); (clear RT); (rintro e w1 ⟨rfl, b1⟩); (have H1 := HQ0.out.below b1); (obtain ⟨u0, u1, u2, u3, u4, u5, u6, u7, u8, u9, u10⟩ := Q.hq_cells H1); (have B1 := Lib.hid (B0.out.trans (b1.mono B0.out.size))); (have HQ1 := Lib.hid H1); (clear b1 H1 k0 k1 k2 k3 k4 k5 k6 k7 k8 k9 k10))
      | (go_at_call 27; (refine (R1.out _ HQ1.out.i).mono ?_); (clear R1); (rintro e w2 ⟨rfl, b2⟩); (have H2 := HQ1.out.below b2); (obtain ⟨k0, k1, k2, k3, k4, k5, k6, k7, k8, k9, k10⟩ := Q.hq_cells H2); (have B2 := Lib.hid (B1.out.trans (b2.mono B1.out.size))); (have HQ2 := Lib.hid H2); (clear b2 H2 HQ1 B1 u0 u1 u2 u3 u4 u5 u6 u7 u8 u9 u10))
      | (go_at_call 24; (refine (AD1.out _ HQ2.out.i).mono ?_); (clear AD1); (rintro e w3 ⟨⟨ck5, rt5, sp5, ⟨⟨p05, p15, p25, p35, p45⟩, a05, c05, a15, c15⟩, be5, en5, it5, ai5, ci5⟩, A5, d5, ss5, rfl, e5, es5, i5, r5, hd5, b3⟩); (have HE5 := Lib.hid e5); (simp only [Q.Qm.a, Q.Qa.mk.injEq] at e5); (obtain ⟨hx1, hx5, hx2, hxc, hx3, hx4, eit⟩ := e5); (replace hx1 := hx1.symm); (replace hx5 := hx5.symm); (subst hx1 hx5 hx2 hx3 hx4); (clear hxc); (obtain rfl := List.map_eq_nil_iff.1 eit); (have hss := congrArg List.length es5); (rw [List.length_map, XL.out] at hss); (have bx := below_box w3 (.cells #[.int .i64 fv, .int .i64 rt, .bool false, .slice a05 p05.length c05, .slice a15 p15.length c15, .int .i64 p25, .int .i64 p35, .int .i64 p45, .int .i64 0, .int .i64 0, .slice ai5 0 ci5] 28)); (have H3x := (HQ2.out.below b3).below bx); (obtain ⟨v0, v1, v2, v3, v4, v5, v6, v7, v8, v9, v10⟩ := Q.hq_cells H3x); (have H5 := Q.HQ.new (W := w3) (C := #[.int .i64 fv, .int .i64 rt, .bool false, .slice a05 p05.length c05, .slice a15 p15.length c15, .int .i64 p25, .int .i64 p35, .int .i64 p45, .int .i64 0, .int .i64 0, .slice ai5 0 ci5]) (q := (⟨fv, rt, false, ⟨⟨p05, p15, p25, p35, p45⟩, a05, c05, a15, c15⟩, 0, 0, [], ai5, ci5⟩ : Q.Qm)) rfl i5); (obtain ⟨y0, y1, y2, y3, y4, y5, y6, y7, y8, y9, y10⟩ := Q.hq_cells H5); (have HQ3 := Lib.hid H3x); (have B3 := Lib.hid ((B2.out.trans (b3.mono B2.out.size)).trans (bx.mono (Nat.le_trans B2.out.size b3.size)))); (have R2 := Q.rest_hq H5.i (by rw [HE5.out]; exact XS.out) (by rw [HE5.out]; exact XC.out)); (rw [HE5.out, Q.fin_empty (Int.le_trans HM.out (by decide))] at R2); (simp only [Q.Qm.cells, List.length_nil] at R2); (replace R2 := Lib.hid R2); (simp only [Q.Qm.cells, List.length_nil]); (have gl : ((ss5.length : Int) != ((0 : Nat) : Int)) = false := by rw [hss]; rfl); (clear b3 bx H3x i5 r5 hd5 es5 eit H5 HQ2 B2 HE5 k0 k1 k2 k3 k4 k5 k6 k7 k8 k9 k10))
      | (go_at_call 27; (refine R2.out.mono ?_); (clear R2); (rintro e w4 ⟨rfl, b4⟩); (have H4 := HQ3.out.below b4); (obtain ⟨k0, k1, k2, k3, k4, k5, k6, k7, k8, k9, k10⟩ := Q.hq_cells H4); (have B4 := Lib.hid (B3.out.trans (b4.mono B3.out.size))); (have HQ4 := Lib.hid H4); (clear b4 H4 HQ3 B3 v0 v1 v2 v3 v4 v5 v6 v7 v8 v9 v10 y0 y1 y2 y3 y4 y5 y6 y7 y8 y9 y10))
      | (go_at_call 13; (refine (AWK.out _).mono ?_); (rintro e wE ⟨rfl, bE⟩); (have BE := Lib.hid (B4.out.trans (bE.mono B4.out.size))); (clear bE)))
    go_ret
    exact ⟨rfl, BE.out⟩
  obtain ⟨f6, f7⟩ := f5 hz
  have AD2 := fun (W : World) (h : Q.QIn W W.heap.size q) => Q.advance_hq (fv - 1) h hs hc
  simp only [Q.advR_ok (time := fv - 1) hp.ck.1 f6 (by omega)] at AD2
  have hw : IntKind.i64.wrap (fv - 1) = fv - 1 := by simp [IntKind.wrap, IntKind.bits, IntKind.signed]; omega
  have HYS0 : (q.a.adv (fv - 1)).1.sp = true ∨ ((q.a.adv (fv - 1)).1.sp = false ∧ 0 < (q.a.adv (fv - 1)).1.items.length) := by
    rcases f7 with h | h
    · exact .inl h
    · cases hh : (q.a.adv (fv - 1)).1.sp
      · exact .inr ⟨rfl, by cases hi : (q.a.adv (fv - 1)).1.items with | nil => exact absurd hi h | cons _ _ => simp⟩
      · exact .inl rfl
  obtain ⟨Y1, hY1⟩ : ∃ Y1, (q.a.adv (fv - 1)).1 = Y1 := ⟨_, rfl⟩
  obtain ⟨Y2, hY2⟩ : ∃ Y2, (q.a.adv (fv - 1)).2 = Y2 := ⟨_, rfl⟩
  simp only [hY1, hY2] at AD2 HYS0
  obtain ⟨ck, rt, sp, ⟨⟨p0, p1, p2, p3, p4⟩, a0, c0, a1, c1⟩, be, en, it, ai, ci⟩ := q
  simp only [Q.cnt, Q.Qm.a, List.length_map] at f3 hz
  cases sp with
  | false =>
    simp only [Bool.false_eq_true, if_false, Nat.add_zero] at f3 hz
    have XL := Lib.hid f3
    simp only at hit
    have gz : ((it.length : Int) == 0) = false := beq_eq_false_iff_ne.2 (by omega)
    obtain ⟨k0, k1, k2, k3, k4, k5, k6, k7, k8, k9, k10⟩ := Q.hq_cells H0
    simp only [Q.Qm.cells] at RT R1 AD1 AD2 B0 HQ0 k0 k1 k2 k3 k4 k5 k6 k7 k8 k9 k10 ⊢
    replace RT := Lib.hid RT
    replace AD1 := Lib.hid AD1
    replace AD2 := Lib.hid AD2
    clear hq H0 b0 hr hs hc hp hfv hM hMle hX2 xc xs f1 f2 f3 f4 f5 f6 f7 hz hit hY1 hY2
    rcases HYS0 with hy | ⟨hy, hi⟩
    · have HYS := Lib.hid hy
      clear hy
      go_enter Try.func8, Try.ntmps8
      go_wp2_with (first
        | (go_at_call 11; (refine RT.out.mono ?_); (clear RT); (rintro e w1 ⟨rfl, b1⟩); (have H1 := HQ0.out.below b1); (obtain ⟨u0, u1, u2, u3, u4, u5, u6, u7, u8, u9, u10⟩ := Q.hq_cells H1); (have B1 := Lib.hid (B0.out.trans (b1.mono B0.out.size))); (have HQ1 := Lib.hid H1); (clear b1 H1 k0 k1 k2 k3 k4 k5 k6 k7 k8 k9 k10))
        | (go_at_call 27; (refine (R1.out _ HQ1.out.i).mono ?_); (clear R1); (rintro e w2 ⟨rfl, b2⟩); (have H2 := HQ1.out.below b2); (obtain ⟨k0, k1, k2, k3, k4, k5, k6, k7, k8, k9, k10⟩ := Q.hq_cells H2); (have B2 := Lib.hid (B1.out.trans (b2.mono B1.out.size))); (have HQ2 := Lib.hid H2); (clear b2 H2 HQ1 B1 u0 u1 u2 u3 u4 u5 u6 u7 u8 u9 u10))
        | (go_at_call 24; (refine (AD1.out _ HQ2.out.i).mono ?_); (clear AD1); (rintro e w3 ⟨⟨ck5, rt5, sp5, ⟨⟨p05, p15, p25, p35, p45⟩, a05, c05, a15, c15⟩, be5, en5, it5, ai5, ci5⟩, A5, d5, ss5, rfl, e5, es5, i5, r5, hd5, b3⟩); (have HE5 := Lib.hid e5); (simp only [Q.Qm.a, Q.Qa.mk.injEq] at e5); (obtain ⟨hx1, hx5, hx2, hxc, hx3, hx4, eit⟩ := e5); (replace hx1 := hx1.symm); (replace hx5 := hx5.symm); (subst hx1 hx5 hx2 hx3 hx4); (clear hxc); (obtain rfl := List.map_eq_nil_iff.1 eit); (have hss := congrArg List.length es5); (rw [List.length_map, XL.out] at hss); (have bx := below_box w3 (.cells #[.int .i64 fv, .int .i64 rt, .bool false, .slice a05 p05.length c05, .slice a15 p15.length c15, .int .i64 p25, .int .i64 p35, .int .i64 p45, .int .i64 0, .int .i64 0, .slice ai5 0 ci5] 28)); (have H3x := (HQ2.out.below b3).below bx); (obtain ⟨v0, v1, v2, v3, v4, v5, v6, v7, v8, v9, v10⟩ := Q.hq_cells H3x); (have H5 := Q.HQ.new (W := w3) (C := #[.int .i64 fv, .int .i64 rt, .bool false, .slice a05 p05.length c05, .slice a15 p15.length c15, .int .i64 p25, .int .i64 p35, .int .i64 p45, .int .i64 0, .int .i64 0, .slice ai5 0 ci5]) (q := (⟨fv, rt, false, ⟨⟨p05, p15, p25, p35, p45⟩, a05, c05, a15, c15⟩, 0, 0, [], ai5, ci5⟩ : Q.Qm)) rfl i5); (obtain ⟨y0, y1, y2, y3, y4, y5, y6, y7, y8, y9, y10⟩ := Q.hq_cells H5); (have HQ3 := Lib.hid H3x); (have B3 := Lib.hid ((B2.out.trans (b3.mono B2.out.size)).trans (bx.mono (Nat.le_trans B2.out.size b3.size)))); (have R2 := Q.rest_hq H5.i (by rw [HE5.out]; exact XS.out) (by rw [HE5.out]; exact XC.out)); (rw [HE5.out, Q.fin_empty (Int.le_trans HM.out (by decide))] at R2); (simp only [Q.Qm.cells, List.length_nil] at R2); (replace R2 := Lib.hid R2); (simp only [Q.Qm.cells, List.length_nil]); (have gl : ((ss5.length : Int) != (it.length : Int)) = false := by rw [hss]; simp); (clear b3 bx H3x i5 r5 hd5 es5 eit H5 HQ2 B2 HE5 k0 k1 k2 k3 k4 k5 k6 k7 k8 k9 k10))
        | (go_at_call 27; (refine R2.out.mono ?_); (clear R2); (rintro e w4 ⟨rfl, b4⟩); (have H4 := HQ3.out.below b4); (obtain ⟨k0, k1, k2, k3, k4, k5, k6, k7, k8, k9, k10⟩ := Q.hq_cells H4); (have B4 := Lib.hid (B3.out.trans (b4.mono B3.out.size))); (have HQ4 := Lib.hid H4); (clear b4 H4 HQ3 B3 v0 v1 v2 v3 v4 v5 v6 v7 v8 v9 v10 y0 y1 y2 y3 y4 y5 y6 y7 y8 y9 y10))
        | (go_at_call 24; (refine (AD2.out _ HQ4.out.i).mono ?_); (clear AD2); (rintro e w6 ⟨⟨ck8, rt8, sp8, ⟨⟨p08, p18, p28, p38, p48⟩, a08, c08, a18, c18⟩, be8, en8, it8, ai8, ci8⟩, A8, d8, ss8, rfl, e8, es8, i8, r8, hd8, b6⟩); (have hs8 := congrArg Q.Qa.sp e8); (rw [HYS.out] at hs8); (simp only [Q.Qm.a] at hs8); (subst hs8); (have H6 := Q.HQ.new (W := w6) (C := #[.int .i64 ck8, .int .i64 rt8, .bool true, .slice a08 p08.length c08, .slice a18 p18.length c18, .int .i64 p28, .int .i64 p38, .int .i64 p48, .int .i64 be8, .int .i64 en8, .slice ai8 it8.length ci8]) (q := (⟨ck8, rt8, true, ⟨⟨p08, p18, p28, p38, p48⟩, a08, c08, a18, c18⟩, be8, en8, it8, ai8, ci8⟩ : Q.Qm)) rfl i8); (obtain ⟨z0, z1, z2, z3, z4, z5, z6, z7, z8, z9, z10⟩ := Q.hq_cells H6); (have B6 := Lib.hid ((B4.out.trans (b6.mono B4.out.size)).trans ((below_box w6 (.cells #[.int .i64 ck8, .int .i64 rt8, .bool true, .slice a08 p08.length c08, .slice a18 p18.length c18, .int .i64 p28, .int .i64 p38, .int .i64 p48, .int .i64 be8, .int .i64 en8, .slice ai8 it8.length ci8] 28)).mono (Nat.le_trans B4.out.size b6.size)))); (simp only [Q.Qm.cells]); (clear b6 i8 r8 hd8 es8 e8 H6 HQ4 B4 k0 k1 k2 k3 k4 k5 k6 k7 k8 k9 k10))
        | (go_at_call 13; (refine (AWK.out _).mono ?_); (rintro e wE ⟨rfl, bE⟩); (have BE := Lib.hid (B6.out.trans (bE.mono B6.out.size))); (clear bE)))
      go_ret
      exact ⟨rfl, BE.out⟩
    · have HYS := Lib.hid hy
      have HYI := Lib.hid hi
      clear hy hi
      go_enter Try.func8, Try.ntmps8
      go_wp2_with (first
        | (go_at_call 11; (refine RT.out.mono ?_); (clear RT); (rintro e w1 ⟨rfl, b1⟩); (have H1 := HQ0.out.below b1); (obtain ⟨u0, u1, u2, u3, u4, u5, u6, u7, u8, u9, u10⟩ := Q.hq_cells H1); (have B1 := Lib.hid (B0.out.trans (b1.mono B0.out.size))); (have HQ1 := Lib.hid H1); (clear b1 H1 k0 k1 k2 k3 k4 k5 k6 k7 k8 k9 k10))
        | (go_at_call 27; (refine (R1.out _ HQ1.out.i).mono ?_); (clear R1); (rintro e w2 ⟨rfl, b2⟩); (have H2 := HQ1.out.below b2); (obtain ⟨k0, k1, k2, k3, k4, k5, k6, k7, k8, k9, k10⟩ := Q.hq_cells H2); (have B2 := Lib.hid (B1.out.trans (b2.mono B1.out.size))); (have HQ2 := Lib.hid H2); (clear b2 H2 HQ1 B1 u0 u1 u2 u3 u4 u5 u6 u7 u8 u9 u10))
        | (go_at_call 24; (refine (AD1.out _ HQ2.out.i).mono ?_); (clear AD1); (rintro e w3 ⟨⟨ck5, rt5, sp5, ⟨⟨p05, p15, p25, p35, p45⟩, a05, c05, a15, c15⟩, be5, en5, it5, ai5, ci5⟩, A5, d5, ss5, rfl, e5, es5, i5, r5, hd5, b3⟩); (have HE5 := Lib.hid e5); (simp only [Q.Qm.a, Q.Qa.mk.injEq] at e5); (obtain ⟨hx1, hx5, hx2, hxc, hx3, hx4, eit⟩ := e5); (replace hx1 := hx1.symm); (replace hx5 := hx5.symm); (subst hx1 hx5 hx2 hx3 hx4); (clear hxc); (obtain rfl := List.map_eq_nil_iff.1 eit); (have hss := congrArg List.length es5); (rw [List.length_map, XL.out] at hss); (have bx := below_box w3 (.cells #[.int .i64 fv, .int .i64 rt, .bool false, .slice a05 p05.length c05, .slice a15 p15.length c15, .int .i64 p25, .int .i64 p35, .int .i64 p45, .int .i64 0, .int .i64 0, .slice ai5 0 ci5] 28)); (have H3x := (HQ2.out.below b3).below bx); (obtain ⟨v0, v1, v2, v3, v4, v5, v6, v7, v8, v9, v10⟩ := Q.hq_cells H3x); (have H5 := Q.HQ.new (W := w3) (C := #[.int .i64 fv, .int .i64 rt, .bool false, .slice a05 p05.length c05, .slice a15 p15.length c15, .int .i64 p25, .int .i64 p35, .int .i64 p45, .int .i64 0, .int .i64 0, .slice ai5 0 ci5]) (q := (⟨fv, rt, false, ⟨⟨p05, p15, p25, p35, p45⟩, a05, c05, a15, c15⟩, 0, 0, [], ai5, ci5⟩ : Q.Qm)) rfl i5); (obtain ⟨y0, y1, y2, y3, y4, y5, y6, y7, y8, y9, y10⟩ := Q.hq_cells H5); (have HQ3 := Lib.hid H3x); (have B3 := Lib.hid ((B2.out.trans (b3.mono B2.out.size)).trans (bx.mono (Nat.le_trans B2.out.size b3.size)))); (have R2 := Q.rest_hq H5.i (by rw [HE5.out]; exact XS.out) (by rw [HE5.out]; exact XC.out)); (rw [HE5.out, Q.fin_empty (Int.le_trans HM.out (by decide))] at R2); (simp only [Q.Qm.cells, List.length_nil] at R2); (replace R2 := Lib.hid R2); (simp only [Q.Qm.cells, List.length_nil]); (have gl : ((ss5.length : Int) != (it.length : Int)) = false := by rw [hss]; simp); (clear b3 bx H3x i5 r5 hd5 es5 eit H5 HQ2 B2 HE5 k0 k1 k2 k3 k4 k5 k6 k7 k8 k9 k10))
        | (go_at_call 27; (refine R2.out.mono ?_); (clear R2); (rintro e w4 ⟨rfl, b4⟩); (have H4 := HQ3.out.below b4); (obtain ⟨k0, k1, k2, k3, k4, k5, k6, k7, k8, k9, k10⟩ := Q.hq_cells H4); (have B4 := Lib.hid (B3.out.trans (b4.mono B3.out.size))); (have HQ4 := Lib.hid H4); (clear b4 H4 HQ3 B3 v0 v1 v2 v3 v4 v5 v6 v7 v8 v9 v10 y0 y1 y2 y3 y4 y5 y6 y7 y8 y9 y10))
        | (go_at_call 24; (refine (AD2.out _ HQ4.out.i).mono ?_); (clear AD2); (rintro e w6 ⟨⟨ck8, rt8, sp8, ⟨⟨p08, p18, p28, p38, p48⟩, a08, c08, a18, c18⟩, be8, en8, it8, ai8, ci8⟩, A8, d8, ss8, rfl, e8, es8, i8, r8, hd8, b6⟩); (have hs8 := congrArg Q.Qa.sp e8); (rw [HYS.out] at hs8); (simp only [Q.Qm.a] at hs8); (subst hs8); (have hi8 := congrArg (fun x => List.length (Q.Qa.items x)) e8); (simp only [Q.Qm.a, List.length_map] at hi8); (have hp8 : 0 < it8.length := by rw [hi8]; exact HYI.out); (have hd8' : decide (0 < it8.length) = true := decide_eq_true hp8); (have hz8 : (0 : Int) < (it8.length : Int) := by omega); (clear hi8); (have H6 := Q.HQ.new (W := w6) (C := #[.int .i64 ck8, .int .i64 rt8, .bool false, .slice a08 p08.length c08, .slice a18 p18.length c18, .int .i64 p28, .int .i64 p38, .int .i64 p48, .int .i64 be8, .int .i64 en8, .slice ai8 it8.length ci8]) (q := (⟨ck8, rt8, false, ⟨⟨p08, p18, p28, p38, p48⟩, a08, c08, a18, c18⟩, be8, en8, it8, ai8, ci8⟩ : Q.Qm)) rfl i8); (obtain ⟨z0, z1, z2, z3, z4, z5, z6, z7, z8, z9, z10⟩ := Q.hq_cells H6); (have B6 := Lib.hid ((B4.out.trans (b6.mono B4.out.size)).trans ((below_box w6 (.cells #[.int .i64 ck8, .int .i64 rt8, .bool false, .slice a08 p08.length c08, .slice a18 p18.length c18, .int .i64 p28, .int .i64 p38, .int .i64 p48, .int .i64 be8, .int .i64 en8, .slice ai8 it8.length ci8] 28)).mono (Nat.le_trans B4.out.size b6.size)))); (simp only [Q.Qm.cells]); (clear b6 i8 r8 hd8 es8 e8 H6 HQ4 B4 k0 k1 k2 k3 k4 k5 k6 k7 k8 k9 k10))
        | (go_at_call 13; (refine (AWK.out _).mono ?_); (rintro e wE ⟨rfl, bE⟩); (have BE := Lib.hid (B6.out.trans (bE.mono B6.out.size))); (clear bE)))
      go_ret
      exact ⟨rfl, BE.out⟩
  | true =>
    simp only [if_true] at f3 hz
    have XL := Lib.hid f3
    simp only at hit
    have gz : ((it.length : Int) + 1 == 0) = false := beq_eq_false_iff_ne.2 (by omega)
    have hw1 : IntKind.i64.wrap ((it.length : Int) + 1) = (it.length : Int) + 1 := by simp [IntKind.wrap, IntKind.bits, IntKind.signed]; omega
    obtain ⟨k0, k1, k2, k3, k4, k5, k6, k7, k8, k9, k10⟩ := Q.hq_cells H0
    simp only [Q.Qm.cells] at RT R1 AD1 AD2 B0 HQ0 k0 k1 k2 k3 k4 k5 k6 k7 k8 k9 k10 ⊢
    replace RT := Lib.hid RT
    replace AD1 := Lib.hid AD1
    replace AD2 := Lib.hid AD2
    clear hq H0 b0 hr hs hc hp hfv hM hMle hX2 xc xs f1 f2 f3 f4 f5 f6 f7 hz hit hY1 hY2
    rcases HYS0 with hy | ⟨hy, hi⟩
    · have HYS := Lib.hid hy
      clear hy
      go_enter Try.func8, Try.ntmps8
      go_wp2_with (first
        | (go_at_call 11; (refine RT.out.mono ?_); (clear RT); (rintro e w1 ⟨rfl, b1⟩); (have H1 := HQ0.out.below b1); (obtain ⟨u0, u1, u2, u3, u4, u5, u6, u7, u8, u9, u10⟩ := Q.hq_cells H1); (have B1 := Lib.hid (B0.out.trans (b1.mono B0.out.size))); (have HQ1 := Lib.hid H1); (clear b1 H1 k0 k1 k2 k3 k4 k5 k6 k7 k8 k9 k10))
        | (go_at_call 27; (refine (R1.out _ HQ1.out.i).mono ?_); (clear R1); (rintro e w2 ⟨rfl, b2⟩); (have H2 := HQ1.out.below b2); (obtain ⟨k0, k1, k2, k3, k4, k5, k6, k7, k8, k9, k10⟩ := Q.hq_cells H2); (have B2 := Lib.hid (B1.out.trans (b2.mono B1.out.size))); (have HQ2 := Lib.hid H2); (clear b2 H2 HQ1 B1 u0 u1 u2 u3 u4 u5 u6 u7 u8 u9 u10))
        | (go_at_call 24; (refine (AD1.out _ HQ2.out.i).mono ?_); (clear AD1); (rintro e w3 ⟨⟨ck5, rt5, sp5, ⟨⟨p05, p15, p25, p35, p45⟩, a05, c05, a15, c15⟩, be5, en5, it5, ai5, ci5⟩, A5, d5, ss5, rfl, e5, es5, i5, r5, hd5, b3⟩); (have HE5 := Lib.hid e5); (simp only [Q.Qm.a, Q.Qa.mk.injEq] at e5); (obtain ⟨hx1, hx5, hx2, hxc, hx3, hx4, eit⟩ := e5); (replace hx1 := hx1.symm); (replace hx5 := hx5.symm); (subst hx1 hx5 hx2 hx3 hx4); (clear hxc); (obtain rfl := List.map_eq_nil_iff.1 eit); (have hss := congrArg List.length es5); (rw [List.length_map, XL.out] at hss); (have bx := below_box w3 (.cells #[.int .i64 fv, .int .i64 rt, .bool false, .slice a05 p05.length c05, .slice a15 p15.length c15, .int .i64 p25, .int .i64 p35, .int .i64 p45, .int .i64 0, .int .i64 0, .slice ai5 0 ci5] 28)); (have H3x := (HQ2.out.below b3).below bx); (obtain ⟨v0, v1, v2, v3, v4, v5, v6, v7, v8, v9, v10⟩ := Q.hq_cells H3x); (have H5 := Q.HQ.new (W := w3) (C := #[.int .i64 fv, .int .i64 rt, .bool false, .slice a05 p05.length c05, .slice a15 p15.length c15, .int .i64 p25, .int .i64 p35, .int .i64 p45, .int .i64 0, .int .i64 0, .slice ai5 0 ci5]) (q := (⟨fv, rt, false, ⟨⟨p05, p15, p25, p35, p45⟩, a05, c05, a15, c15⟩, 0, 0, [], ai5, ci5⟩ : Q.Qm)) rfl i5); (obtain ⟨y0, y1, y2, y3, y4, y5, y6, y7, y8, y9, y10⟩ := Q.hq_cells H5); (have HQ3 := Lib.hid H3x); (have B3 := Lib.hid ((B2.out.trans (b3.mono B2.out.size)).trans (bx.mono (Nat.le_trans B2.out.size b3.size)))); (have R2 := Q.rest_hq H5.i (by rw [HE5.out]; exact XS.out) (by rw [HE5.out]; exact XC.out)); (rw [HE5.out, Q.fin_empty (Int.le_trans HM.out (by decide))] at R2); (simp only [Q.Qm.cells, List.length_nil] at R2); (replace R2 := Lib.hid R2); (simp only [Q.Qm.cells, List.length_nil]); (have gl : ((ss5.length : Int) != (it.length : Int) + 1) = false := by rw [hss]; simp); (clear b3 bx H3x i5 r5 hd5 es5 eit H5 HQ2 B2 HE5 k0 k1 k2 k3 k4 k5 k6 k7 k8 k9 k10))
        | (go_at_call 27; (refine R2.out.mono ?_); (clear R2); (rintro e w4 ⟨rfl, b4⟩); (have H4 := HQ3.out.below b4); (obtain ⟨k0, k1, k2, k3, k4, k5, k6, k7, k8, k9, k10⟩ := Q.hq_cells H4); (have B4 := Lib.hid (B3.out.trans (b4.mono B3.out.size))); (have HQ4 := Lib.hid H4); (clear b4 H4 HQ3 B3 v0 v1 v2 v3 v4 v5 v6 v7 v8 v9 v10 y0 y1 y2 y3 y4 y5 y6 y7 y8 y9 y10))
        | (go_at_call 24; (refine (AD2.out _ HQ4.out.i).mono ?_); (clear AD2); (rintro e w6 ⟨⟨ck8, rt8, sp8, ⟨⟨p08, p18, p28, p38, p48⟩, a08, c08, a18, c18⟩, be8, en8, it8, ai8, ci8⟩, A8, d8, ss8, rfl, e8, es8, i8, r8, hd8, b6⟩); (have hs8 := congrArg Q.Qa.sp e8); (rw [HYS.out] at hs8); (simp only [Q.Qm.a] at hs8); (subst hs8); (have H6 := Q.HQ.new (W := w6) (C := #[.int .i64 ck8, .int .i64 rt8, .bool true, .slice a08 p08.length c08, .slice a18 p18.length c18, .int .i64 p28, .int .i64 p38, .int .i64 p48, .int .i64 be8, .int .i64 en8, .slice ai8 it8.length ci8]) (q := (⟨ck8, rt8, true, ⟨⟨p08, p18, p28, p38, p48⟩, a08, c08, a18, c18⟩, be8, en8, it8, ai8, ci8⟩ : Q.Qm)) rfl i8); (obtain ⟨z0, z1, z2, z3, z4, z5, z6, z7, z8, z9, z10⟩ := Q.hq_cells H6); (have B6 := Lib.hid ((B4.out.trans (b6.mono B4.out.size)).trans ((below_box w6 (.cells #[.int .i64 ck8, .int .i64 rt8, .bool true, .slice a08 p08.length c08, .slice a18 p18.length c18, .int .i64 p28, .int .i64 p38, .int .i64 p48, .int .i64 be8, .int .i64 en8, .slice ai8 it8.length ci8] 28)).mono (Nat.le_trans B4.out.size b6.size)))); (simp only [Q.Qm.cells]); (clear b6 i8 r8 hd8 es8 e8 H6 HQ4 B4 k0 k1 k2 k3 k4 k5 k6 k7 k8 k9 k10))
        | (go_at_call 13; (refine (AWK.out _).mono ?_); (rintro e wE ⟨rfl, bE⟩); (have BE := Lib.hid (B6.out.trans (bE.mono B6.out.size))); (clear bE)))
      go_ret
      exact ⟨rfl, BE.out⟩
    · have HYS := Lib.hid hy
      have HYI := Lib.hid hi
      clear hy hi
      go_enter Try.func8, Try.ntmps8
      go_wp2_with (first
        | (go_at_call 11; (refine RT.out.mono ?_); (clear RT); (rintro e w1 ⟨rfl, b1⟩); (have H1 := HQ0.out.below b1); (obtain ⟨u0, u1, u2, u3, u4, u5, u6, u7, u8, u9, u10⟩ := Q.hq_cells H1); (have B1 := Lib.hid (B0.out.trans (b1.mono B0.out.size))); (have HQ1 := Lib.hid H1); (clear b1 H1 k0 k1 k2 k3 k4 k5 k6 k7 k8 k9 k10))
        | (go_at_call 27; (refine (R1.out _ HQ1.out.i).mono ?_); (clear R1); (rintro e w2 ⟨rfl, b2⟩); (have H2 := HQ1.out.below b2); (obtain ⟨k0, k1, k2, k3, k4, k5, k6, k7, k8, k9, k10⟩ := Q.hq_cells H2); (have B2 := Lib.hid (B1.out.trans (b2.mono B1.out.size))); (have HQ2 := Lib.hid H2); (clear b2 H2 HQ1 B1 u0 u1 u2 u3 u4 u5 u6 u7 u8 u9 u10))
        | (go_at_call 24; (refine (AD1.out _ HQ2.out.i).mono ?_); (clear AD1); (rintro e w3 ⟨⟨ck5, rt5, sp5, ⟨⟨p05, p15, p25, p35, p45⟩, a05, c05, a15, c15⟩, be5, en5, it5, ai5, ci5⟩, A5, d5, ss5, rfl, e5, es5, i5, r5, hd5, b3⟩); (have HE5 := Lib.hid e5); (simp only [Q.Qm.a, Q.Qa.mk.injEq] at e5); (obtain ⟨hx1, hx5, hx2, hxc, hx3, hx4, eit⟩ := e5); (replace hx1 := hx1.symm); (replace hx5 := hx5.symm); (subst hx1 hx5 hx2 hx3 hx4); (clear hxc); (obtain rfl := List.map_eq_nil_iff.1 eit); (have hss := congrArg List.length es5); (rw [List.length_map, XL.out] at hss); (have bx := below_box w3 (.cells #[.int .i64 fv, .int .i64 rt, .bool false, .slice a05 p05.length c05, .slice a15 p15.length c15, .int .i64 p25, .int .i64 p35, .int .i64 p45, .int .i64 0, .int .i64 0, .slice ai5 0 ci5] 28)); (have H3x := (HQ2.out.below b3).below bx); (obtain ⟨v0, v1, v2, v3, v4, v5, v6, v7, v8, v9, v10⟩ := Q.hq_cells H3x); (have H5 := Q.HQ.new (W := w3) (C := #[.int .i64 fv, .int .i64 rt, .bool false, .slice a05 p05.length c05, .slice a15 p15.length c15, .int .i64 p25, .int .i64 p35, .int .i64 p45, .int .i64 0, .int .i64 0, .slice ai5 0 ci5]) (q := (⟨fv, rt, false, ⟨⟨p05, p15, p25, p35, p45⟩, a05, c05, a15, c15⟩, 0, 0, [], ai5, ci5⟩ : Q.Qm)) rfl i5); (obtain ⟨y0, y1, y2, y3, y4, y5, y6, y7, y8, y9, y10⟩ := Q.hq_cells H5); (have HQ3 := Lib.hid H3x); (have B3 := Lib.hid ((B2.out.trans (b3.mono B2.out.size)).trans (bx.mono (Nat.le_trans B2.out.size b3.size)))); (have R2 := Q.rest_hq H5.i (by rw [HE5.out]; exact XS.out) (by rw [HE5.out]; exact XC.out)); (rw [HE5.out, Q.fin_empty (Int.le_trans HM.out (by decide))] at R2); (simp only [Q.Qm.cells, List.length_nil] at R2); (replace R2 := Lib.hid R2); (simp only [Q.Qm.cells, List.length_nil]); (have gl : ((ss5.length : Int) != (it.length : Int) + 1) = false := by rw [hss]; simp); (clear b3 bx H3x i5 r5 hd5 es5 eit H5 HQ2 B2 HE5 k0 k1 k2 k3 k4 k5 k6 k7 k8 k9 k10))
        | (go_at_call 27; (refine R2.out.mono ?_); (clear R2); (rintro e w4 ⟨rfl, b4⟩); (have H4 := HQ3.out.below b4); (obtain ⟨k0, k1, k2, k3, k4, k5, k6, k7, k8, k9, k10⟩ := Q.hq_cells H4); (have B4 := Lib.hid (B3.out.trans (b4.mono B3.out.size))); (have HQ4 := Lib.hid H4); (clear b4 H4 HQ3 B3 v0 v1 v2 v3 v4 v5 v6 v7 v8 v9 v10 y0 y1 y2 y3 y4 y5 y6 y7 y8 y9 y10))
        | (go_at_call 24; (refine (AD2.out _ HQ4.out.i).mono ?_); (clear AD2); (rintro e w6 ⟨⟨ck8, rt8, sp8, ⟨⟨p08, p18, p28, p38, p48⟩, a08, c08, a18, c18⟩, be8, en8, it8, ai8, ci8⟩, A8, d8, ss8, rfl, e8, es8, i8, r8, hd8, b6⟩); (have hs8 := congrArg Q.Qa.sp e8); (rw [HYS.out] at hs8); (simp only [Q.Qm.a] at hs8); (subst hs8); (have hi8 := congrArg (fun x => List.length (Q.Qa.items x)) e8); (simp only [Q.Qm.a, List.length_map] at hi8); (have hp8 : 0 < it8.length := by rw [hi8]; exact HYI.out); (have hd8' : decide (0 < it8.length) = true := decide_eq_true hp8); (have hz8 : (0 : Int) < (it8.length : Int) := by omega); (clear hi8); (have H6 := Q.HQ.new (W := w6) (C := #[.int .i64 ck8, .int .i64 rt8, .bool false, .slice a08 p08.length c08, .slice a18 p18.length c18, .int .i64 p28, .int .i64 p38, .int .i64 p48, .int .i64 be8, .int .i64 en8, .slice ai8 it8.length ci8]) (q := (⟨ck8, rt8, false, ⟨⟨p08, p18, p28, p38, p48⟩, a08, c08, a18, c18⟩, be8, en8, it8, ai8, ci8⟩ : Q.Qm)) rfl i8); (obtain ⟨z0, z1, z2, z3, z4, z5, z6, z7, z8, z9, z10⟩ := Q.hq_cells H6); (have B6 := Lib.hid ((B4.out.trans (b6.mono B4.out.size)).trans ((below_box w6 (.cells #[.int .i64 ck8, .int .i64 rt8, .bool false, .slice a08 p08.length c08, .slice a18 p18.length c18, .int .i64 p28, .int .i64 p38, .int .i64 p48, .int .i64 be8, .int .i64 en8, .slice ai8 it8.length ci8] 28)).mono (Nat.le_trans B4.out.size b6.size)))); (simp only [Q.Qm.cells]); (clear b6 i8 r8 hd8 es8 e8 H6 HQ4 B4 k0 k1 k2 k3 k4 k5 k6 k7 k8 k9 k10))
        | (go_at_call 13; (refine (AWK.out _).mono ?_); (rintro e wE ⟨rfl, bE⟩); (have BE := Lib.hid (B6.out.trans (bE.mono B6.out.size))); (clear bE)))
      go_ret
      exact ⟨rfl, BE.out⟩
end Go.Proofs.Ytfjkelngdljikaa
