/-
  The law Steps of layer 44. By an AI agent.
-/
import Derived.Test.YtfjkelngdljikaaLw
import Derived.Test.YtfjkelngdljikaaLa
namespace Go.Proofs.Ytfjkelngdljikaa
set_option linter.unusedVariables false
set_option linter.unusedSimpArgs false
open Go.RowKit Go.Joins Go.Deep

/-- append behind a guard that lets it through. -/
theorem wpList_append_want {P : Program} (w : World) {ops : Array Oper} {rest : List Oper} {o : Oper} {a : Act} {Q : Exit → Act → World → Prop} (hw : Region.wanted o (yielded ops a.tmps) = true) (s x : Operand) (t : TypeId)
    (ho : o.op = .call { callee := .builtin .append, args := #[s, x], argTypes := #[t, t] })
    (base : Nat) (e : TypeId) (i : TypeInfo) (z : Value) (size bytes : Nat) (ht : P.underlying t = some (.slice e)) (hi : P.info? e = some i) (hz : i.zero = some z)
    (hsize : i.size = size) (hby : i.bytes = bytes) (hzs : z.cells.size = size) (hsz : 0 < size)
    (v : Value) (n : Nat) (xs : List Value) (hs : a.eval s = v) (hown : w.ownsRow base e size v n xs)
    (B : Nat) (A : Option Addr) (m c : Nat) (news : List Value) (hx : a.eval x = .slice A m c) (hr : Reads w B size A m news) (h1 : ∀ u ∈ news, u.oneCell' = true)
    (h63 : n + m ≤ maxLen) (hbytes : (n + m) * bytes ≤ 140737488355328) (hbase : base ≤ w.heap.size)
    (h : ∀ v' w', w'.ownsRow base e size v' (n + m) (xs ++ news) → w.grownBy w' v.ownBlock → (v'.ownBlock = v.ownBlock ∨ v'.ownBlock = some w.heap.size) → wpList P ops Q rest (a.put o.dst v') w') : wpList P ops Q (o :: rest) a w := by
  simp only [wpList, hw, if_true]
  exact .inl (wp_append_any w s x t ho base e i z size bytes ht hi hz hsize hby hzs hsz v n xs hs hown B A m c news hx hr h1 h63 hbytes hbase h)
namespace Q
/-- A row of reports of the call's own. -/
theorem ss_own {W : World} {base : Nat} {A : Option Addr} {l : List Sm} {n c : Nat} (h : W.ownsRow base 38 8 (.slice A n c) n (scs l)) (hn : n = l.length) (hu : ∀ s ∈ l, UIn W W.heap.size s.m) : SsIn W W.heap.size A l := by
  subst hn
  obtain ⟨A1, c1, e1, r1, _⟩ := own_reads_cap h
  injection e1 with e1 _ _
  subst e1
  exact ⟨r1, hu⟩
theorem HQ.on_own {W W' : World} {b : Nat} {q : Qm} {B : Nat} (h : HQ W b q) (hb : Below B W W') (hB : W.heap.size ≤ B) : HQ W' b q := h.below (hb.mono hB)
end Q
set_option maxRecDepth 100000 in
set_option maxHeartbeats 4000000 in
theorem stepslaw_any (q : Q.Qm) (x1 x2 : Int) (w : World) (hq : Q.QGood w q) (h1 : 0 ≤ x1) (h2 : x1 ≤ 4294967295) (h3 : 0 ≤ x2) (h4 : x2 ≤ 4294967295):
    Calls Try.prog 6 #[.agg q.cells.toArray, .int .u32 x1, .int .u32 x2] w fun e w' => e = .returned (.bool true) ∧ Below w.heap.size w w' := by
  have b0 := below_box w (.cells q.cells.toArray 28)
  have H0 := Q.HQ.new (W := w) (q := q) rfl hq.i
  have RT := Q.right_hq H0.i hq.len hq.fits hq.cur
  have AWK := Lib.hid awake_any
  rcases Q.right_cases q.a with hr | ⟨hr, hc, hs⟩
  case inl =>
    rw [hr] at RT
    have k := Q.hq_cells (q.hq_eta ▸ H0)
    have B0 := Lib.hid b0
    obtain ⟨ck, rt, sp, ⟨⟨p0, p1, p2, p3, p4⟩, a0, c0, a1, c1⟩, be, en, it, ai, ci⟩ := q
    simp only [Q.Qm.cells] at RT B0 k ⊢
    obtain ⟨k0, k1, k2, k3, k4, k5, k6, k7, k8, k9, k10⟩ := k
    replace RT := Lib.hid RT
    clear hq H0 b0 hr h1 h2 h3 h4
    go_enter Try.func6, Try.ntmps6
    go_wp2_with (first
      | (go_at_call 11; refine RT.out.mono ?_; clear RT; rintro e w1 ⟨rfl, b1⟩; (have B1 := Lib.hid (B0.out.trans (b1.mono B0.out.size))))
      | (go_at_call 13; refine (AWK.out _).mono ?_; rintro e w2 ⟨rfl, b2⟩))
    go_ret
    exact ⟨rfl, B1.out.trans (b2.mono B1.out.size)⟩
  rw [hr] at RT
  have HQ0 := Lib.hid H0
  have B0 := Lib.hid b0
  have hp := Q.chk_proper hc
  have hck := hp.ck
  by_cases hM : 1082331758592 < q.clock
  · have gM : decide (1082331758592 < q.clock) = true := decide_eq_true hM
    obtain ⟨ck, rt, sp, ⟨⟨p0, p1, p2, p3, p4⟩, a0, c0, a1, c1⟩, be, en, it, ai, ci⟩ := q
    obtain ⟨k0, k1, k2, k3, k4, k5, k6, k7, k8, k9, k10⟩ := Q.hq_cells H0
    simp only [Q.Qm.cells] at gM RT B0 HQ0 k0 k1 k2 k3 k4 k5 k6 k7 k8 k9 k10 ⊢
    replace RT := Lib.hid RT
    clear hq H0 b0 hr hs hc hp hM hck h1 h2 h3 h4
    go_enter Try.func6, Try.ntmps6
    go_wp2_with (first
      | (go_at_call 11; (refine RT.out.mono ?_); (clear RT); (rintro e w1 ⟨rfl, b1⟩); (have H1 := HQ0.out.below b1); (obtain ⟨u0, u1, u2, u3, u4, u5, u6, u7, u8, u9, u10⟩ := Q.hq_cells H1); (have B1 := Lib.hid (B0.out.trans (b1.mono B0.out.size))); (have HQ1 := Lib.hid H1); (clear b1 H1 k0 k1 k2 k3 k4 k5 k6 k7 k8 k9 k10))
      | (go_at_call 13; (refine (AWK.out _).mono ?_); (rintro e wE ⟨rfl, bE⟩); (have BE := Lib.hid (B1.out.trans (bE.mono B1.out.size))); (clear bE)))
    go_ret
    exact ⟨rfl, BE.out⟩
  have gM : decide (1082331758592 < q.clock) = false := decide_eq_false hM
  have hcq : q.a.clock = q.clock := rfl
  obtain ⟨s1, hs1⟩ : ∃ s1, q.clock + x1 = s1 := ⟨_, rfl⟩
  obtain ⟨t2, ht2⟩ : ∃ t2, q.clock + x1 + x2 = t2 := ⟨_, rfl⟩
  have ha1 : q.a.advR s1 = ((q.a.adv s1).1, (q.a.adv s1).2, 0) := Q.advR_ok hck.1 (by omega) (by omega)
  have ha3 : q.a.advR t2 = ((q.a.adv t2).1, (q.a.adv t2).2, 0) := Q.advR_ok hck.1 (by omega) (by omega)
  have xc := Q.adv_chk (time := s1) hc hs (by omega) (by omega)
  have xs := Q.adv_sml' (time := s1) hs
  have xcl : (q.a.adv s1).1.clock = s1 := Q.toQ_clock _ _ _
  have ha2 : (q.a.adv s1).1.advR t2 = (((q.a.adv s1).1.adv t2).1, ((q.a.adv s1).1.adv t2).2, 0) := Q.advR_ok (by rw [xcl]; omega) (by rw [xcl]; omega) (by omega)
  have hst := Q.qadv_steps (a := q.a) (s := s1) (t := t2) (by omega) (by omega)
  have AD1 := fun (W : World) (h : Q.QIn W W.heap.size q) => Q.advance_hq s1 h hs hc
  have AD3 := fun (W : World) (h : Q.QIn W W.heap.size q) => Q.advance_hq t2 h hs hc
  rw [ha3, hst] at AD3
  rw [ha1] at AD1
  have xl := Q.adv_say_len (time := s1) hs
  have xr := Q.adv_say_small (time := s1) hs
  have ys := Q.adv_sml' (time := t2) xs
  have yl := Q.adv_say_len (time := t2) xs
  have yr := Q.adv_say_small (time := t2) xs
  obtain ⟨X1, hX1⟩ : ∃ X, (q.a.adv s1).1 = X := ⟨_, rfl⟩
  obtain ⟨X2, hX2⟩ : ∃ X, (q.a.adv s1).2 = X := ⟨_, rfl⟩
  rw [hX1] at ha2 xc xs AD1 AD3 ys yl yr
  rw [hX2] at AD1 AD3 xl xr
  obtain ⟨Y1, hY1⟩ : ∃ X, (X1.adv t2).1 = X := ⟨_, rfl⟩
  obtain ⟨Y2, hY2⟩ : ∃ X, (X1.adv t2).2 = X := ⟨_, rfl⟩
  rw [hY1] at ha2 AD3 ys
  rw [hY2] at ha2 AD3 yl yr
  have XC := Lib.hid xc
  have XS := Lib.hid xs
  have XL := Lib.hid xl
  have XR := Lib.hid xr
  have YS := Lib.hid ys
  have YL := Lib.hid yl
  have YR := Lib.hid yr
  have XA := Lib.hid ha2
  obtain ⟨iS, hiS, hS0, hS1, hS2⟩ := info_parts infoS
  have w0 : IntKind.i64.wrap x1 = x1 := by simp [IntKind.wrap, IntKind.bits, IntKind.signed]; omega
  have w1_ : IntKind.i64.wrap x2 = x2 := by simp [IntKind.wrap, IntKind.bits, IntKind.signed]; omega
  have w2_ : IntKind.i64.wrap (q.clock + x1) = s1 := by simp [IntKind.wrap, IntKind.bits, IntKind.signed]; omega
  have w3_ : IntKind.i64.wrap (s1 + x2) = t2 := by simp [IntKind.wrap, IntKind.bits, IntKind.signed]; omega
  obtain ⟨ck, rt, sp, ⟨⟨p0, p1, p2, p3, p4⟩, a0, c0, a1, c1⟩, be, en, it, ai, ci⟩ := q
  obtain ⟨k0, k1, k2, k3, k4, k5, k6, k7, k8, k9, k10⟩ := Q.hq_cells H0
  simp only [Q.Qm.cells] at gM RT AD1 AD3 B0 HQ0 w2_ k0 k1 k2 k3 k4 k5 k6 k7 k8 k9 k10 ⊢
  replace RT := Lib.hid RT
  replace AD1 := Lib.hid AD1
  replace AD3 := Lib.hid AD3
  clear hq H0 b0 hr hs hc hp hM hck hcq hs1 ht2 ha1 ha2 ha3 hst xc xs xcl xl xr ys yl yr hX1 hX2 hY1 hY2 h1 h2 h3 h4
  go_enter Try.func6, Try.ntmps6
  go_wp2_with (first
    | (go_at_call 11; (refine RT.out.mono ?_); (clear RT); (rintro e w1 ⟨rfl, b1⟩); (have H1 := HQ0.out.below b1); (obtain ⟨u0, u1, u2, u3, u4, u5, u6, u7, u8, u9, u10⟩ := Q.hq_cells H1); (have B1 := Lib.hid (B0.out.trans (b1.mono B0.out.size))); (have HQ1 := Lib.hid H1); (clear b1 H1 k0 k1 k2 k3 k4 k5 k6 k7 k8 k9 k10)))
  go_quiet (fail)
  obtain ⟨wd, hwd⟩ : ∃ wd, w1.drewN nq = wd := ⟨_, rfl⟩
  have bd := below_drewN_ w1 nq
  rw [hwd] at bd ⊢
  have hk := HQ1.out.below bd
  have B1' := Lib.hid (B1.out.trans (bd.mono B1.out.size))
  replace B1 := B1'
  replace HQ1 := Lib.hid hk
  clear bd hwd B1' u0 u1 u2 u3 u4 u5 u6 u7 u8 u9 u10
  obtain ⟨u0, u1, u2, u3, u4, u5, u6, u7, u8, u9, u10⟩ := Q.hq_cells hk
  clear hk
  go_wp2_with (first
    | (go_at_call 24; (refine (AD1.out _ HQ1.out.i).mono ?_); (rintro e w3 ⟨⟨ck5, rt5, sp5, ⟨⟨p05, p15, p25, p35, p45⟩, a05, c05, a15, c15⟩, be5, en5, it5, ai5, ci5⟩, A5, d5, ss5, rfl, e5, es5, i5, r5, hd5, bb⟩); (simp only at e5 es5); (have bx := below_box w3 (.cells #[.int .i64 ck5, .int .i64 rt5, .bool sp5, .slice a05 p05.length c05, .slice a15 p15.length c15, .int .i64 p25, .int .i64 p35, .int .i64 p45, .int .i64 be5, .int .i64 en5, .slice ai5 it5.length ci5] 28)); (have hk := (HQ1.out.below bb).below bx); (obtain ⟨v0, v1, v2, v3, v4, v5, v6, v7, v8, v9, v10⟩ := Q.hq_cells hk); (have HQ3 := Lib.hid hk); (clear hk); (have hk := Q.HQ.new (W := w3) (C := #[.int .i64 ck5, .int .i64 rt5, .bool sp5, .slice a05 p05.length c05, .slice a15 p15.length c15, .int .i64 p25, .int .i64 p35, .int .i64 p45, .int .i64 be5, .int .i64 en5, .slice ai5 it5.length ci5]) (q := (⟨ck5, rt5, sp5, ⟨⟨p05, p15, p25, p35, p45⟩, a05, c05, a15, c15⟩, be5, en5, it5, ai5, ci5⟩ : Q.Qm)) rfl i5); (have R5 := Lib.hid (r5.on bx)); (have E5 := Lib.hid e5); (have ES5 := Lib.hid es5); (have B3 := Lib.hid ((B1.out.trans (bb.mono B1.out.size)).trans (bx.mono (Nat.le_trans B1.out.size bb.size)))); (obtain ⟨y0, y1, y2, y3, y4, y5, y6, y7, y8, y9, y10⟩ := Q.hq_cells hk); (have H5 := Lib.hid hk); (simp only [Q.Qm.cells]); (clear hk bb bx i5 r5 e5 es5 hd5 AD1 HQ1 u0 u1 u2 u3 u4 u5 u6 u7 u8 u9 u10))
    | (go_at_call 24; (have AD2 := Q.advance_hq t2 H5.out.i (by rw [E5.out]; exact XS.out) (by rw [E5.out]; exact XC.out)); (rw [E5.out, XA.out] at AD2); (simp only [Q.Qm.cells] at AD2); (refine (AD2).mono ?_); (rintro e w4 ⟨⟨ck8, rt8, sp8, ⟨⟨p08, p18, p28, p38, p48⟩, a08, c08, a18, c18⟩, be8, en8, it8, ai8, ci8⟩, A8, d8, ss8, rfl, e8, es8, i8, r8, hd8, bb⟩); (simp only at e8 es8); (have bx := below_box w4 (.cells #[.int .i64 ck8, .int .i64 rt8, .bool sp8, .slice a08 p08.length c08, .slice a18 p18.length c18, .int .i64 p28, .int .i64 p38, .int .i64 p48, .int .i64 be8, .int .i64 en8, .slice ai8 it8.length ci8] 28)); (have hk := (HQ3.out.below bb).below bx); (obtain ⟨k0, k1, k2, k3, k4, k5, k6, k7, k8, k9, k10⟩ := Q.hq_cells hk); (have HQ4 := Lib.hid hk); (clear hk); (have hk := Q.HQ.new (W := w4) (C := #[.int .i64 ck8, .int .i64 rt8, .bool sp8, .slice a08 p08.length c08, .slice a18 p18.length c18, .int .i64 p28, .int .i64 p38, .int .i64 p48, .int .i64 be8, .int .i64 en8, .slice ai8 it8.length ci8]) (q := (⟨ck8, rt8, sp8, ⟨⟨p08, p18, p28, p38, p48⟩, a08, c08, a18, c18⟩, be8, en8, it8, ai8, ci8⟩ : Q.Qm)) rfl i8); (have R8 := Lib.hid (r8.on bx)); (have E8 := Lib.hid e8); (have ES8 := Lib.hid es8); (have B4 := Lib.hid ((B3.out.trans (bb.mono B3.out.size)).trans (bx.mono (Nat.le_trans B3.out.size bb.size)))); (have R5b := Lib.hid ((R5.out.on bb).on bx)); (have H8 := Lib.hid hk); (simp only [Q.Qm.cells]); (clear hk bb bx i8 r8 e8 es8 hd8 AD2 HQ3 R5 H5 v0 v1 v2 v3 v4 v5 v6 v7 v8 v9 v10 y0 y1 y2 y3 y4 y5 y6 y7 y8 y9 y10))
    | (go_at_call 24; (refine (AD3.out _ HQ4.out.i).mono ?_); (rintro e w5 ⟨⟨ck9, rt9, sp9, ⟨⟨p09, p19, p29, p39, p49⟩, a09, c09, a19, c19⟩, be9, en9, it9, ai9, ci9⟩, A9, d9, ss9, rfl, e9, es9, i9, r9, hd9, bb⟩); (simp only at e9 es9); (have bx := below_box w5 (.cells #[.int .i64 ck9, .int .i64 rt9, .bool sp9, .slice a09 p09.length c09, .slice a19 p19.length c19, .int .i64 p29, .int .i64 p39, .int .i64 p49, .int .i64 be9, .int .i64 en9, .slice ai9 it9.length ci9] 28)); (have hk := (H8.out.below bb).below bx); (obtain ⟨y0, y1, y2, y3, y4, y5, y6, y7, y8, y9, y10⟩ := Q.hq_cells hk); (have H8b := Lib.hid hk); (clear hk); (have hk := Q.HQ.new (W := w5) (C := #[.int .i64 ck9, .int .i64 rt9, .bool sp9, .slice a09 p09.length c09, .slice a19 p19.length c19, .int .i64 p29, .int .i64 p39, .int .i64 p49, .int .i64 be9, .int .i64 en9, .slice ai9 it9.length ci9]) (q := (⟨ck9, rt9, sp9, ⟨⟨p09, p19, p29, p39, p49⟩, a09, c09, a19, c19⟩, be9, en9, it9, ai9, ci9⟩ : Q.Qm)) rfl i9); (have R9 := Lib.hid (r9.on bx)); (have E9 := Lib.hid e9); (have ES9 := Lib.hid es9); (have B5 := Lib.hid ((B4.out.trans (bb.mono B4.out.size)).trans (bx.mono (Nat.le_trans B4.out.size bb.size)))); (obtain ⟨z0, z1, z2, z3, z4, z5, z6, z7, z8, z9, z10⟩ := Q.hq_cells hk); (have R5c := Lib.hid ((R5b.out.on bb).on bx)); (have R8c := Lib.hid ((R8.out.on bb).on bx)); (have SA := Lib.hid (Q.same_hq H8b.out.i hk.i (E8.out.trans E9.out.symm) (by rw [E8.out]; exact YS.out))); (simp only [Q.Qm.cells] at SA); (simp only [Q.Qm.cells]); (have l5 : ss5.length ≤ 9 := by have := congrArg List.length ES5.out; rw [List.length_map] at this; have := XL.out; omega); (have l8 : ss8.length ≤ 9 := by have := congrArg List.length ES8.out; rw [List.length_map] at this; have := YL.out; omega); (have SL : Hid (ss5.length ≤ 9 ∧ ss8.length ≤ 9) := Lib.hid ⟨l5, l8⟩); (clear l5 l8 hk bb bx i9 r9 e9 es9 hd9 AD3 HQ4 R5b R8 H8 k0 k1 k2 k3 k4 k5 k6 k7 k8 k9 k10))
    | (go_at_call 16; (refine SA.out.mono ?_); (clear SA); (rintro e w6 ⟨rfl, b6⟩); (have B6 := Lib.hid (B5.out.trans (b6.mono B5.out.size))); (have bx := below_box w6 (.cells #[] 38)); (have R5d := Lib.hid ((R5c.out.on b6).on bx)); (have R8d := Lib.hid ((R8c.out.on b6).on bx)); (have R9d := Lib.hid ((R9.out.on b6).on bx)); (have RR5 := Lib.hid ((R5c.out.on b6).below bx (Nat.le_refl _))); (have RR8 := Lib.hid ((R8c.out.on b6).below bx (Nat.le_refl _))); (have R9s := Lib.hid ((R9.out.on b6).below bx (Nat.le_refl _))); (have B6s : Hid (w.heap.size ≤ w6.heap.size) := Lib.hid B6.out.size); (have OWN0 := Lib.hid (World.ownsRow_lit (base := w6.heap.size) (e := 38) (size := 8) w6 #[] 0 (Nat.le_refl _) (by decide) rfl)); (have B6x := Lib.hid (B6.out.trans (bx.mono B6.out.size))); (have s6 : w6.heap.size ≤ (w6.alloc (.cells #[] 38)).heap.size := bx.size); (clear b6 bx R5c R8c R9 H8b B5 B6 y0 y1 y2 y3 y4 y5 y6 y7 y8 y9 y10 z0 z1 z2 z3 z4 z5 z6 z7 z8 z9 z10))
    | (at_builtin; (refine wpList_append_want _ (by kernel_rfl) (.tmp 77) (.tmp 78) 45 rfl w6.heap.size 38 iS _ 8 96 Try.underlying45 hiS hS0 hS1 hS2 rfl (by omega) (.slice (some ⟨w6.heap.size, 0, none⟩) 0 0) 0 [] rfl OWN0.out _ A5 ss5.length _ _ rfl R5d.out.row (Q.scs_one _) (by have := SL.out; simp only [maxLen]; omega) (by have := SL.out; omega) s6 ?_); (intro v7 w7 hown7 hg7 _); (simp only [Nat.zero_add, List.nil_append] at hown7); (have g7 : Below w6.heap.size (w6.alloc (.cells #[] 38)) w7 := Q.below_turn s6 hg7 (fun r e => (OWN0.out.lt r e).1)); (obtain ⟨A7, c7, rfl, _, _⟩ := own_reads_cap hown7); (have G7 := Lib.hid g7); (have OWN7 := Lib.hid hown7); (have s7 : w6.heap.size ≤ w7.heap.size := Nat.le_trans s6 g7.size); (clear hown7 hg7 g7))
    | (at_builtin; (refine wpList_append_want _ (by kernel_rfl) (.tmp 79) (.tmp 80) 45 rfl w6.heap.size 38 iS _ 8 96 Try.underlying45 hiS hS0 hS1 hS2 rfl (by omega) (.slice A7 ss5.length c7) ss5.length (Q.scs ss5) rfl OWN7.out w6.heap.size A8 ss8.length _ _ rfl (RR8.out.row.below G7.out (Nat.le_refl _)) (Q.scs_one _) (by have := SL.out; simp only [maxLen]; omega) (by have := SL.out; omega) s7 ?_); (intro v8 w8 hown8 hg8 _); (have g8 : Below w6.heap.size w7 w8 := Q.below_turn s7 hg8 (fun r e => (OWN7.out.lt r e).1)); (obtain ⟨A10, c10, rfl, _, _⟩ := own_reads_cap hown8); (have gg := G7.out.trans g8); (have own8 : w8.ownsRow w6.heap.size 38 8 (.slice A10 (ss5.length + ss8.length) c10) (ss5.length + ss8.length) (Q.scs (ss5 ++ ss8)) := by rw [show Q.scs (ss5 ++ ss8) = Q.scs ss5 ++ Q.scs ss8 from by simp [Q.scs]]; exact hown8); (have SS := Q.ss_own own8 (by rw [List.length_append]) (fun s hs => by rcases List.mem_append.1 hs with hs | hs; exact ((RR5.out.el s hs).below gg (Nat.le_refl _)).more (Nat.le_trans s7 g8.size); exact ((RR8.out.el s hs).below gg (Nat.le_refl _)).more (Nat.le_trans s7 g8.size))); (have SR := Q.reps_hq (c1 := c10) (c2 := d9) SS ((R9s.out.below gg (Nat.le_refl _)).more (Nat.le_trans s7 g8.size)) (by rw [List.map_append, ES5.out, ES8.out, ES9.out]) (by rw [List.map_append, ES5.out, ES8.out, List.length_append]; have := XL.out; have := YL.out; omega) (fun s hs => by rw [List.map_append, ES5.out, ES8.out] at hs; rcases List.mem_append.1 hs with hs | hs; exact XR.out s hs; exact YR.out s hs)); (rw [List.length_append] at SR); (have SRh := Lib.hid SR); (have B8 := Lib.hid (B6x.out.trans ((gg.mono (Nat.le_trans B6s.out (Nat.le_refl _)))))); (clear SR SS own8 hown8 hg8 g8 gg))
    | (go_at_call 26; (refine SRh.out.mono ?_); (clear SRh); (rintro e w9 ⟨rfl, b9⟩); (have B9 := Lib.hid (B8.out.trans (b9.mono B8.out.size))); (clear b9))
    | (go_at_call 13; (refine (AWK.out _).mono ?_); (rintro e wE ⟨rfl, bE⟩); (have BE := Lib.hid (B9.out.trans (bE.mono B9.out.size))); (clear bE)))
  go_ret
  exact ⟨rfl, BE.out⟩
end Go.Proofs.Ytfjkelngdljikaa
