/-
  The law Order of layer 44. By an AI agent.
-/
import Derived.Test.YtfjkelngdljikaaCut
namespace Go.Proofs.Ytfjkelngdljikaa
set_option linter.unusedVariables false
set_option linter.unusedSimpArgs false
open Go.RowKit Go.Joins Go.Deep

theorem Q.Qm.hq_eta (q : Q.Qm) : q = ⟨q.clock, q.rate, q.sp, ⟨⟨q.cur.u.words, q.cur.u.chs, q.cur.u.cl, q.cur.u.af, q.cur.u.up⟩, q.cur.aw, q.cur.cw, q.cur.ac, q.cur.cc⟩, q.be, q.en, q.items, q.ai, q.ci⟩ := rfl
namespace Q
/-- Behind Advance: the world W since then (w3), the variable of the queue that came out, an own row's base above it. -/
structure OI (w3 W : World) (C : Array Value) : Prop where
  b : Below w3.heap.size w3 W
  v : W.heap[w3.heap.size]? = some (.cells C 28 (0, 0))
  sz : w3.heap.size + 1 ≤ W.heap.size
theorem OI.new (w3 : World) (C : Array Value) : OI w3 (w3.alloc (.cells C 28)) C := ⟨below_box w3 _, heap_alloc_new w3 _, by simp⟩
theorem OI.below {w3 W W' : World} {C : Array Value} {B : Nat} (h : OI w3 W C) (hb : Below B W W') (hB : w3.heap.size + 1 ≤ B) : OI w3 W' C :=
  ⟨h.b.trans (hb.mono (by omega)), (hb.block _ (by omega)).trans h.v, Nat.le_trans h.sz hb.size⟩
end Q
set_option maxRecDepth 100000 in
set_option maxHeartbeats 4000000 in
theorem orderlaw_any (q : Q.Qm) (x1 : Int) (w : World) (hq : Q.QGood w q) (h1 : 0 ≤ x1) (h2 : x1 ≤ 4294967295):
    Calls Try.prog 7 #[.agg q.cells.toArray, .int .u32 x1] w fun e w' => e = .returned (.bool true) ∧ Below w.heap.size w w' := by
  have b0 := below_box w (.cells q.cells.toArray 28)
  have H0 := Q.HQ.new (W := w) (q := q) rfl hq.i
  have RT := Q.right_hq H0.i hq.len hq.fits hq.cur
  have AWK := Lib.hid awake_any
  rcases Q.right_cases q.a with hr | ⟨hr, hc, hs⟩
  case inl =>
    rw [hr] at RT
    have k := Q.hq_cells (q.hq_eta ▸ H0)
    have B0 := Lib.hid b0
    obtain ⟨ck, rt, sp, ⟨⟨p0, p1, p2, p3, p4⟩, a0, c0, a1, c1⟩, be, en, it, ai, ci⟩ := q
    simp only [Q.Qm.cells] at RT B0 k ⊢
    obtain ⟨k0, k1, k2, k3, k4, k5, k6, k7, k8, k9, k10⟩ := k
    replace RT := Lib.hid RT
    clear hq H0 b0 hr h1 h2
    go_enter Try.func7, Try.ntmps7
    go_wp2_with (first
      | (go_at_call 11; refine RT.out.mono ?_; clear RT; rintro e w1 ⟨rfl, b1⟩; (have B1 := Lib.hid (B0.out.trans (b1.mono B0.out.size))))
      | (go_at_call 13; refine (AWK.out _).mono ?_; rintro e w2 ⟨rfl, b2⟩))
    go_ret
    exact ⟨rfl, B1.out.trans (b2.mono B1.out.size)⟩
  rw [hr] at RT
  have HQ0 := Lib.hid H0
  have B0 := Lib.hid b0
  have hp := Q.chk_proper hc
  by_cases hM : 1082331758592 < q.clock
  · have gM : decide (1082331758592 < q.clock) = true := decide_eq_true hM
    obtain ⟨ck, rt, sp, ⟨⟨p0, p1, p2, p3, p4⟩, a0, c0, a1, c1⟩, be, en, it, ai, ci⟩ := q
    obtain ⟨k0, k1, k2, k3, k4, k5, k6, k7, k8, k9, k10⟩ := Q.hq_cells H0
    simp only [Q.Qm.cells] at gM RT B0 HQ0 k0 k1 k2 k3 k4 k5 k6 k7 k8 k9 k10 ⊢
    replace RT := Lib.hid RT
    clear hq H0 b0 hr hs hc hp hM h1 h2
    go_enter Try.func7, Try.ntmps7
    go_wp2_with (first
      | (go_at_call 11; (refine RT.out.mono ?_); (clear RT); (rintro e w1 ⟨rfl, b1⟩); (have H1 := HQ0.out.below b1); (obtain ⟨ka0, ka1, ka2, ka3, ka4, ka5, ka6, ka7, ka8, ka9, ka10⟩ := Q.hq_cells H1); (have B1 := Lib.hid (B0.out.trans (b1.mono B0.out.size))); (have HQ1 := Lib.hid H1); (clear b1 H1 k0 k1 k2 k3 k4 k5 k6 k7 k8 k9 k10))
      | (go_at_call 13; (refine (AWK.out _).mono ?_); (rintro e wE ⟨rfl, bE⟩); (have BE := Lib.hid (B1.out.trans (bE.mono B1.out.size))); (clear bE)))
    go_ret
    exact ⟨rfl, BE.out⟩
  have gM : decide (1082331758592 < q.clock) = false := decide_eq_false hM
  have hck := hp.ck
  simp only [Q.Qm.a] at hck
  obtain ⟨t2, ht2⟩ : ∃ t2, q.clock + x1 = t2 := ⟨_, rfl⟩
  have w1_ : IntKind.i64.wrap x1 = x1 := by simp [IntKind.wrap, IntKind.bits, IntKind.signed]; omega
  have w2_ : IntKind.i64.wrap (q.clock + x1) = t2 := by simp [IntKind.wrap, IntKind.bits, IntKind.signed]; omega
  have hX := Q.advR_ok (a := q.a) (time := t2) hck.1 (show q.clock ≤ t2 by omega) (by omega)
  have AD1 := fun (W : World) (h : Q.QIn W W.heap.size q) => Q.advance_hq t2 h hs hc
  rw [hX] at AD1
  have XC := Lib.hid (Q.adv_chk (time := t2) hc hs (show q.clock ≤ t2 by omega) (by omega))
  have XS := Lib.hid (Q.adv_sml' (time := t2) hs)
  have XL := Lib.hid (Q.adv_say_len (time := t2) hs)
  have XK : Hid ((q.a.adv t2).1.clock = t2) := Lib.hid (Q.toQ_clock _ _ _)
  have SM := Lib.hid hs
  have CK := Lib.hid hc
  have HT2 := Lib.hid ht2
  have XT := Lib.hid (And.intro h1 (And.intro h2 hck.1))
  obtain ⟨X1, hX1⟩ : ∃ X, (q.a.adv t2).1 = X := ⟨_, rfl⟩
  obtain ⟨X2, hX2⟩ : ∃ X, (q.a.adv t2).2 = X := ⟨_, rfl⟩
  have OF := Lib.hid (Q.ord_facts2 hX1 hX2 hc hs (show q.clock ≤ t2 by omega))
  simp only [hX1, hX2] at AD1 XC XS XL XK
  have hl8 : q.items.length ≤ 16 := by have := hs.1; simpa [Q.Qm.a] using this
  obtain ⟨iU, hiU, hU0, hU1, hU2⟩ := info_parts infoU
  obtain ⟨ck, rt, sp, ⟨⟨p0, p1, p2, p3, p4⟩, a0, c0, a1, c1⟩, be, en, it, ai, ci⟩ := q
  obtain ⟨k0, k1, k2, k3, k4, k5, k6, k7, k8, k9, k10⟩ := Q.hq_cells H0
  simp only [Q.Qm.cells] at gM RT B0 HQ0 AD1 w2_ hl8 k0 k1 k2 k3 k4 k5 k6 k7 k8 k9 k10 ⊢
  replace RT := Lib.hid RT
  replace AD1 := Lib.hid AD1
  clear hq H0 b0 hr hs hc hp hM hck hX hX1 hX2 ht2 h1 h2
  cases sp with
  | false =>
    go_enter Try.func7, Try.ntmps7
    go_wp2_with (first
      | (go_at_call 11; (refine RT.out.mono ?_); (clear RT); (rintro e w1 ⟨rfl, b1⟩); (have H1 := HQ0.out.below b1); (obtain ⟨ka0, ka1, ka2, ka3, ka4, ka5, ka6, ka7, ka8, ka9, ka10⟩ := Q.hq_cells H1); (have B1 := Lib.hid (B0.out.trans (b1.mono B0.out.size))); (have HQ1 := Lib.hid H1); (clear b1 H1 k0 k1 k2 k3 k4 k5 k6 k7 k8 k9 k10))
      | (go_at_call 24; (refine (AD1.out _ HQ1.out.i).mono ?_); (rintro e w3 ⟨⟨ck5, rt5, sp5, ⟨⟨p05, p15, p25, p35, p45⟩, a05, c05, a15, c15⟩, be5, en5, it5, ai5, ci5⟩, A5, d5, ss5, rfl, e5, es5, i5, r5, hd5, bb⟩); (simp only at e5 es5); (have hk := HQ1.out.below bb); (have HQ3 := Lib.hid hk); (have I5 := Lib.hid i5); (have R5 := Lib.hid r5); (have E5 := Lib.hid e5); (have ES5 := Lib.hid es5); (have HD5 := Lib.hid hd5); (have B3 := Lib.hid (B1.out.trans (bb.mono B1.out.size))); (have oi := Q.OI.new w3 #[.int .i64 ck5, .int .i64 rt5, .bool sp5, .slice a05 p05.length c05, .slice a15 p15.length c15, .int .i64 p25, .int .i64 p35, .int .i64 p45, .int .i64 be5, .int .i64 en5, .slice ai5 it5.length ci5]); (have ow := World.ownsRow_lit (base := w3.heap.size + 1) (e := 25) (size := 5) (w3.alloc (.cells #[.int .i64 ck5, .int .i64 rt5, .bool sp5, .slice a05 p05.length c05, .slice a15 p15.length c15, .int .i64 p25, .int .i64 p35, .int .i64 p45, .int .i64 be5, .int .i64 en5, .slice ai5 it5.length ci5] 28)) #[] 0 (by simp) (by decide) rfl); (have by4 := below_box (w3.alloc (.cells #[.int .i64 ck5, .int .i64 rt5, .bool sp5, .slice a05 p05.length c05, .slice a15 p15.length c15, .int .i64 p25, .int .i64 p35, .int .i64 p45, .int .i64 be5, .int .i64 en5, .slice ai5 it5.length ci5] 28)) (.cells #[] 25)); (have oi4 := oi.below by4 (by simp)); (obtain ⟨w4, hw4⟩ : ∃ W, (w3.alloc (.cells #[.int .i64 ck5, .int .i64 rt5, .bool sp5, .slice a05 p05.length c05, .slice a15 p15.length c15, .int .i64 p25, .int .i64 p35, .int .i64 p45, .int .i64 be5, .int .i64 en5, .slice ai5 it5.length ci5] 28)).alloc (.cells #[] 25) = W := ⟨_, rfl⟩); (simp only [World.size_alloc] at ow); (rw [hw4] at oi4 ow); (have hq4 := HQ3.out.below oi4.b); (obtain ⟨kb0, kb1, kb2, kb3, kb4, kb5, kb6, kb7, kb8, kb9, kb10⟩ := Q.hq_cells hq4); (have OI4 := Lib.hid oi4); (have OW0 := Lib.hid ow); (have hq3 := HQ3.out.below (below_box w3 (.cells #[.int .i64 ck5, .int .i64 rt5, .bool sp5, .slice a05 p05.length c05, .slice a15 p15.length c15, .int .i64 p25, .int .i64 p35, .int .i64 p45, .int .i64 be5, .int .i64 en5, .slice ai5 it5.length ci5] 28))); (obtain ⟨kz0, kz1, kz2, kz3, kz4, kz5, kz6, kz7, kz8, kz9, kz10⟩ := Q.hq_cells hq3); (simp only [Q.Qm.cells]); (clear bb i5 r5 e5 es5 hd5 hk oi by4 oi4 ow hq4 hq3 AD1 HQ1 ka0 ka1 ka2 ka3 ka4 ka5 ka6 ka7 ka8 ka9 ka10))
      | (at_builtin; (refine wpList_append_any _ rfl (.tmp 45) (.tmp 47) _ rfl (w3.heap.size + 1) 25 iU _ 5 72 Try.underlying26 hiU hU0 hU1 hU2 rfl (by omega) (.slice (some ⟨w3.heap.size + 1, 0, none⟩) 0 0) 0 [] rfl OW0.out w3.heap.size ai it.length _ _ rfl ((HQ3.out.i.items.row).below OI4.out.b (Nat.le_refl _)) (Q.ucs_one _) (by simp only [maxLen]; omega) (by omega) OI4.out.sz ?_); (intro v5 w5 hown5 hg5 hat5); (simp only [Nat.zero_add, List.nil_append] at hown5); (have g5 := Q.below_turn OI4.out.sz hg5 (fun r e => (OW0.out.lt r e).1)); (obtain ⟨A7, c7, rfl, hrd5, hc5⟩ := own_reads_cap hown5); (have HC7 := Lib.hid hc5); (have OI5 := Lib.hid (OI4.out.below g5 (Nat.le_refl _))); (have OW5 := Lib.hid hown5); (have hq5 := HQ3.out.below OI5.out.b); (obtain ⟨kc0, kc1, kc2, kc3, kc4, kc5, kc6, kc7, kc8, kc9, kc10⟩ := Q.hq_cells hq5); (clear hown5 hg5 hat5 g5 hrd5 hc5 OW0 OI4 hq5 kb0 kb1 kb2 kb3 kb4 kb5 kb6 kb7 kb8 kb9 kb10 kz0 kz1 kz2 kz3 kz4 kz5 kz6 kz7 kz8 kz9 kz10)))
    have OF2 := Lib.hid (show _ from OF.out)
    have HRD := Lib.hid (show Reads w5 w5.heap.size 5 A7 it.length (Q.ucs it) from Reads.of_own OW5.out)
    have AU : Hid (it.map (·.u) = Q.leftA (⟨ck, rt, false, ⟨⟨p0, p1, p2, p3, p4⟩, a0, c0, a1, c1⟩, be, en, it, ai, ci⟩ : Q.Qm).a) := Lib.hid (Q.allU_u (⟨ck, rt, false, ⟨⟨p0, p1, p2, p3, p4⟩, a0, c0, a1, c1⟩, be, en, it, ai, ci⟩ : Q.Qm))
    have AI : Hid (∀ m ∈ it, Q.UIn w3 w3.heap.size m) := Lib.hid (fun m hm => HQ3.out.i.items.el m hm)
    have AS : Hid (∀ m ∈ it, Q.Small m.u ∧ 0 ≤ m.u.af) := Lib.hid (fun m hm => ⟨SM.out.2.2 _ (List.mem_map.2 ⟨m, hm, rfl⟩), (Q.pr_af (Q.prs_mem (Q.chk_proper CK.out).its (List.mem_map.2 ⟨m, hm, rfl⟩))).1⟩)
    have hl9 : it.length ≤ 17 := by omega
    have hln : ss5.length ≤ it.length := by have h := congrArg List.length OF.out.1; rw [← AU.out, List.length_append, ← ES5.out] at h; simp at h; omega
    have HLN := Lib.hid hln
    go_loopw [51, 9, 10] (fun v l kk wr => ∃ k : Nat, k ≤ ss5.length ∧ v = .int .i64 k ∧ l = .int .i64 (Q.endAt ck (ss5.map (·.en)) k) ∧ kk = .int .i64 k ∧ Hid (Below w5.heap.size w5 wr)) (fun v _ _ _ => ss5.length - (intOf v).toNat)
    case atStart => exact ⟨0, Nat.zero_le _, rfl, rfl, rfl, Lib.hid (Below.refl _ _)⟩
    case round =>
      obtain ⟨k, hk, rfl, rfl, rfl, hB⟩ := hrel
      clear kc0 kc1 kc2 kc3 kc4 kc5 kc6 kc7 kc8 kc9 kc10
      by_cases hlt : k < ss5.length
      · have hlt2 : k < it.length := by omega
        have hr8 : Reads wr w3.heap.size 8 A5 ss5.length (Q.scs ss5) := (R5.out.row).below (OI5.out.b.trans (hB.out.mono OI5.out.b.size)) (Nat.le_refl _)
        have hr5 : Reads wr w5.heap.size 5 A7 it.length (Q.ucs it) := HRD.out.below hB.out (Nat.le_refl _)
        obtain ⟨b2, o2, rfl, hb2, hcl2⟩ := Q.reads_sp hr8 (Nat.lt_of_le_of_lt (Nat.zero_le k) hlt)
        obtain ⟨b1, o1, rfl, hb1, hcl1⟩ := Q.reads_at hr5 (Nat.lt_of_le_of_lt (Nat.zero_le k) hlt2)
        obtain ⟨g0, g1, g2, g3, g4, g5, g6, g7⟩ := hcl2 k hlt
        obtain ⟨r0, r1, r2, r3, r4⟩ := hcl1 k hlt2
        have hof := OF.out.2
        rw [← ES5.out] at hof
        have hofk := hof k (by simpa using hlt)
        simp only [List.getElem_map, List.map_map] at hofk
        have hu : ss5[k].m.u = it[k].u := by
          have h := congrArg (fun l => l[k]?) OF.out.1
          rw [← ES5.out, ← AU.out] at h
          simpa [hlt, hlt2, Q.Sm.a, List.getElem?_append] using h
        have rin := (R5.out.el _ (List.getElem_mem hlt))
        have uin := (AI.out _ (List.getElem_mem hlt2))
        obtain ⟨sm, hsm⟩ : ∃ x, ss5[k] = x := ⟨_, rfl⟩
        obtain ⟨um, hum⟩ : ∃ x, it[k] = x := ⟨_, rfl⟩
        rw [hsm] at g0 g1 g2 g3 g4 g5 g6 g7 hofk hu rin
        rw [hum] at r0 r1 r2 r3 r4 hu uin
        have hsmall := AS.out _ (List.getElem_mem hlt2)
        rw [hum] at hsmall
        obtain ⟨⟨⟨m07, m17, m27, m37, m47⟩, f07, f17, f27, f37⟩, sb7, se7, sc7⟩ := sm
        obtain ⟨⟨n0, n1, n2, n3, n4⟩, z0, z1, z2, z3⟩ := um
        simp only at g0 g1 g2 g3 g4 g5 g6 g7 r0 r1 r2 r3 r4 hofk hu
        injection hu with e0 e1 e2 e3 e4
        subst e0 e1 e2 e3 e4
        obtain ⟨hco, hen, hfst, hbe⟩ := hofk
        simp only [Q.Sm.a, Q.Qm.a] at hco hen hfst hbe
        subst hco
        have q0 : decide ((k : Int) < (ss5.length : Int)) = true := decide_eq_true (by omega)
        have q1 : (0 : Int) ≤ (k : Int) := by omega
        have q2 : (k : Int) < (ss5.length : Int) := by omega
        have q3 : (k : Int) < (it.length : Int) := by omega
        have q4 : decide ((it.length : Int) ≤ (k : Int)) = false := decide_eq_false (by omega)
        have q5 : decide (t2 < se7) = false := decide_eq_false (by omega)
        have q6 : decide (it.length ≤ k) = false := decide_eq_false (by omega)
        have q7 : ((it.length : Int) ≤ (k : Int)) = False := eq_false (by omega)
        have hk1 : k + 1 ≤ 17 := by omega
        obtain ⟨la, hla⟩ : ∃ x, Q.endAt ck (ss5.map (·.en)) k = x := ⟨_, rfl⟩
        have HLA := Lib.hid hla
        have HFST := Lib.hid hfst
        have HBE := Lib.hid hbe
        have HEN := Lib.hid hen
        have RIN := Lib.hid rin
        have UIN := Lib.hid uin
        have HSMA := Lib.hid hsmall
        have HUM := Lib.hid hum
        have HSM := Lib.hid hsm
        rw [hla]
        clear hr8 hr5 hcl1 hcl2 hof hbe hfst hla rin uin hsmall hum hsm hen HLN
        go_wp2_with fail
        have bx := below_box wr (.cells #[.slice f07 m07.length f17, .slice f27 m17.length f37, .int .i64 m27, .int .i64 m37, .int .i64 m47, .int .i64 sb7, .int .i64 se7, .bool true] 38)
        have hv6 := heap_alloc_new wr (.cells #[.slice f07 m07.length f17, .slice f27 m17.length f37, .int .i64 m27, .int .i64 m37, .int .i64 m47, .int .i64 sb7, .int .i64 se7, .bool true] 38)
        obtain ⟨w6, hw6⟩ : ∃ W, wr.alloc (.cells #[.slice f07 m07.length f17, .slice f27 m17.length f37, .int .i64 m27, .int .i64 m37, .int .i64 m47, .int .i64 sb7, .int .i64 se7, .bool true] 38) = W := ⟨_, rfl⟩
        rw [hw6] at bx hv6 ⊢
        have b6 := hB.out.trans (bx.mono hB.out.size)
        have B6 := Lib.hid b6
        have sT := (Array.getElem?_eq_some_iff.1 hv6).1
        have hq6 := Q.hq_cells (HQ3.out.below (OI5.out.b.trans (b6.mono OI5.out.b.size)))
        have tc0 := cell_of_block_ (i := 0) hv6
        have tc1 := cell_of_block_ (i := 1) hv6
        have tc2 := cell_of_block_ (i := 2) hv6
        have tc3 := cell_of_block_ (i := 3) hv6
        have tc4 := cell_of_block_ (i := 4) hv6
        have tc5 := cell_of_block_ (i := 5) hv6
        have tc6 := cell_of_block_ (i := 6) hv6
        have tc7 := cell_of_block_ (i := 7) hv6
        simp at tc0 tc1 tc2 tc3 tc4 tc5 tc6 tc7
        have sb := Nat.lt_of_lt_of_le hb1 b6.size
        have hb1' := Nat.lt_of_lt_of_le hb1 hB.out.size
        have CELL : Hid (∀ W : World, Below w6.heap.size w6 W → (W.cell? ⟨wr.heap.size, 0, none⟩ = some (.slice f07 m07.length f17) ∧ W.cell? ⟨wr.heap.size, 1, none⟩ = some (.slice f27 m17.length f37) ∧ W.cell? ⟨wr.heap.size, 2, none⟩ = some (.int .i64 m27) ∧ W.cell? ⟨wr.heap.size, 3, none⟩ = some (.int .i64 m37) ∧ W.cell? ⟨wr.heap.size, 4, none⟩ = some (.int .i64 m47) ∧ W.cell? ⟨wr.heap.size, 5, none⟩ = some (.int .i64 sb7) ∧ W.cell? ⟨wr.heap.size, 6, none⟩ = some (.int .i64 se7) ∧ W.cell? ⟨wr.heap.size, 7, none⟩ = some (.bool true) ∧ W.cell? ⟨b1, o1 + k * 5, none⟩ = some (.slice z0 m07.length z1) ∧ W.cell? ⟨b1, o1 + k * 5 + 1, none⟩ = some (.slice z2 m17.length z3) ∧ W.cell? ⟨b1, o1 + k * 5 + 2, none⟩ = some (.int .i64 m27) ∧ W.cell? ⟨b1, o1 + k * 5 + 3, none⟩ = some (.int .i64 m37) ∧ W.cell? ⟨b1, o1 + k * 5 + 4, none⟩ = some (.int .i64 m47) ∧ W.cell? ⟨w.heap.size, 0, none⟩ = some (.int .i64 ck) ∧ W.cell? ⟨w.heap.size, 1, none⟩ = some (.int .i64 rt))) := Lib.hid (fun W hb => ⟨(hb.cell sT).trans tc0, (hb.cell sT).trans tc1, (hb.cell sT).trans tc2, (hb.cell sT).trans tc3, (hb.cell sT).trans tc4, (hb.cell sT).trans tc5, (hb.cell sT).trans tc6, (hb.cell sT).trans tc7, (hb.cell sb).trans ((bx.cell hb1').trans r0), (hb.cell sb).trans ((bx.cell hb1').trans r1), (hb.cell sb).trans ((bx.cell hb1').trans r2), (hb.cell sb).trans ((bx.cell hb1').trans r3), (hb.cell sb).trans ((bx.cell hb1').trans r4), (hb.cell (Nat.lt_of_lt_of_le (Array.getElem?_eq_some_iff.1 HQ3.out.v).1 (Nat.le_trans OI5.out.b.size b6.size))).trans hq6.1, (hb.cell (Nat.lt_of_lt_of_le (Array.getElem?_eq_some_iff.1 HQ3.out.v).1 (Nat.le_trans OI5.out.b.size b6.size))).trans hq6.2.1⟩)
        have SU := Lib.hid (fun (W : World) (hb : Below w6.heap.size w6 W) => sameut_any ⟨⟨m07, m17, m27, m37, m47⟩, f07, f17, f27, f37⟩ ⟨⟨m07, m17, m27, m37, m47⟩, z0, z1, z2, z3⟩ w3.heap.size W (RIN.out.below (OI5.out.b.trans ((b6.trans (hb.mono b6.size)).mono OI5.out.b.size)) (Nat.le_refl _)) (UIN.out.below (OI5.out.b.trans ((b6.trans (hb.mono b6.size)).mono OI5.out.b.size)) (Nat.le_refl _)) (Nat.le_trans OI5.out.b.size (Nat.le_trans b6.size hb.size)) rfl HSMA.out.1.ok.1 HSMA.out.1.ok.2.1 HSMA.out.1.ok.2.2)
        have WU := Lib.hid (fun (W : World) (hb : Below w6.heap.size w6 W) => words_any z0 z1 w3.heap.size m07 rt W ((UIN.out.below (OI5.out.b.trans ((b6.trans (hb.mono b6.size)).mono OI5.out.b.size)) (Nat.le_refl _)).w) (Nat.le_trans OI5.out.b.size (Nat.le_trans b6.size hb.size)) (Nat.le_trans HSMA.out.1.1 (by decide)) (fun s hs => Nat.le_trans (HSMA.out.1.2.2.1 s hs) (by decide)))
        simp only [Q.Um.cells] at SU
        clear bx hv6 sT hq6 sb hb1' b6 hw6 tc0 tc1 tc2 tc3 tc4 tc5 tc6 tc7 r0 r1 r2 r3 r4 g0 g1 g2 g3 g4 g5 g6 g7
        refine wp_normal ?_
        refine wp_region_held_drew (S := fun w' => w'.cell? ⟨wr.heap.size, 0, none⟩ = some (.slice f07 m07.length f17) ∧ w'.cell? ⟨wr.heap.size, 1, none⟩ = some (.slice f27 m17.length f37) ∧ w'.cell? ⟨wr.heap.size, 2, none⟩ = some (.int .i64 m27) ∧ w'.cell? ⟨wr.heap.size, 3, none⟩ = some (.int .i64 m37) ∧ w'.cell? ⟨wr.heap.size, 4, none⟩ = some (.int .i64 m47) ∧ w'.cell? ⟨wr.heap.size, 5, none⟩ = some (.int .i64 sb7) ∧ w'.cell? ⟨wr.heap.size, 6, none⟩ = some (.int .i64 se7) ∧ w'.cell? ⟨wr.heap.size, 7, none⟩ = some (.bool true) ∧ w'.cell? ⟨b1, o1 + k * 5, none⟩ = some (.slice z0 m07.length z1) ∧ w'.cell? ⟨b1, o1 + k * 5 + 1, none⟩ = some (.slice z2 m17.length z3) ∧ w'.cell? ⟨b1, o1 + k * 5 + 2, none⟩ = some (.int .i64 m27) ∧ w'.cell? ⟨b1, o1 + k * 5 + 3, none⟩ = some (.int .i64 m37) ∧ w'.cell? ⟨b1, o1 + k * 5 + 4, none⟩ = some (.int .i64 m47) ∧ w'.cell? ⟨w.heap.size, 0, none⟩ = some (.int .i64 ck) ∧ w'.cell? ⟨w.heap.size, 1, none⟩ = some (.int .i64 rt)) (by kernel_rfl) (CELL.out _ (Below.refl _ w6).drew) (fun hHeld => ?_)
        obtain ⟨wd, hwd⟩ : ∃ wd, w6.drew = wd := ⟨_, rfl⟩
        have bd : Below w6.heap.size w6 wd := by rw [← hwd]; exact (Below.refl _ w6).drew
        rw [hwd] at hHeld ⊢
        clear hwd
        refine tk 0 rfl (by kernel_rfl) hHeld (fun _ _ _ h => h) (v := ?_) ?_ ?_
        rotate_left 1
        · (intro w hSw; (try dsimp only at hSw); (try simp only [List.getElem_toArray, List.getElem_cons_succ, List.getElem_cons_zero]); go_simp) <;> (with_reducible rfl)
        try simp only [List.getElem_toArray, List.getElem_cons_succ, List.getElem_cons_zero, Act.put, List.setIfInBounds_toArray, List.set_cons_zero, List.set_cons_succ]
        refine tk 1 rfl (by kernel_rfl) hHeld (fun _ _ _ h => h) (v := ?_) ?_ ?_
        rotate_left 1
        · (intro w hSw; (try dsimp only at hSw); (try simp only [List.getElem_toArray, List.getElem_cons_succ, List.getElem_cons_zero]); go_simp) <;> (with_reducible rfl)
        try simp only [List.getElem_toArray, List.getElem_cons_succ, List.getElem_cons_zero, Act.put, List.setIfInBounds_toArray, List.set_cons_zero, List.set_cons_succ]
        refine tk 2 rfl (by kernel_rfl) hHeld (fun _ _ _ h => h) (v := ?_) ?_ ?_
        rotate_left 1
        · (intro w hSw; (try dsimp only at hSw); (try simp only [List.getElem_toArray, List.getElem_cons_succ, List.getElem_cons_zero]); go_simp) <;> (with_reducible rfl)
        try simp only [List.getElem_toArray, List.getElem_cons_succ, List.getElem_cons_zero, Act.put, List.setIfInBounds_toArray, List.set_cons_zero, List.set_cons_succ]
        refine tk 3 rfl (by kernel_rfl) hHeld (fun _ _ _ h => h) (v := ?_) ?_ ?_
        rotate_left 1
        · (intro w hSw; (try dsimp only at hSw); (try simp only [List.getElem_toArray, List.getElem_cons_succ, List.getElem_cons_zero]); go_simp) <;> (with_reducible rfl)
        try simp only [List.getElem_toArray, List.getElem_cons_succ, List.getElem_cons_zero, Act.put, List.setIfInBounds_toArray, List.set_cons_zero, List.set_cons_succ]
        refine tk 4 rfl (by kernel_rfl) hHeld (fun _ _ _ h => h) (v := ?_) ?_ ?_
        rotate_left 1
        · (intro w hSw; (try dsimp only at hSw); (try simp only [List.getElem_toArray, List.getElem_cons_succ, List.getElem_cons_zero]); go_simp) <;> (with_reducible rfl)
        try simp only [List.getElem_toArray, List.getElem_cons_succ, List.getElem_cons_zero, Act.put, List.setIfInBounds_toArray, List.set_cons_zero, List.set_cons_succ]
        refine tk 5 rfl (by kernel_rfl) hHeld (fun _ _ _ h => h) (v := ?_) ?_ ?_
        rotate_left 1
        · (intro w hSw; (try dsimp only at hSw); (try simp only [List.getElem_toArray, List.getElem_cons_succ, List.getElem_cons_zero]); go_simp) <;> (with_reducible rfl)
        try simp only [List.getElem_toArray, List.getElem_cons_succ, List.getElem_cons_zero, Act.put, List.setIfInBounds_toArray, List.set_cons_zero, List.set_cons_succ]
        refine tk 6 rfl (by kernel_rfl) hHeld (fun _ _ _ h => h) (v := ?_) ?_ ?_
        rotate_left 1
        · (intro w hSw; (try dsimp only at hSw); (try simp only [List.getElem_toArray, List.getElem_cons_succ, List.getElem_cons_zero]); go_simp) <;> (with_reducible rfl)
        try simp only [List.getElem_toArray, List.getElem_cons_succ, List.getElem_cons_zero, Act.put, List.setIfInBounds_toArray, List.set_cons_zero, List.set_cons_succ]
        refine tk 7 rfl (by kernel_rfl) hHeld (fun _ _ _ h => h) (v := ?_) ?_ ?_
        rotate_left 1
        · (intro w hSw; (try dsimp only at hSw); (try simp only [List.getElem_toArray, List.getElem_cons_succ, List.getElem_cons_zero]); go_simp) <;> (with_reducible rfl)
        try simp only [List.getElem_toArray, List.getElem_cons_succ, List.getElem_cons_zero, Act.put, List.setIfInBounds_toArray, List.set_cons_zero, List.set_cons_succ]
        refine tk 8 rfl (by kernel_rfl) hHeld (fun _ _ _ h => h) (v := ?_) ?_ ?_
        rotate_left 1
        · (intro w hSw; (try dsimp only at hSw); (try simp only [List.getElem_toArray, List.getElem_cons_succ, List.getElem_cons_zero]); go_simp) <;> (with_reducible rfl)
        try simp only [List.getElem_toArray, List.getElem_cons_succ, List.getElem_cons_zero, Act.put, List.setIfInBounds_toArray, List.set_cons_zero, List.set_cons_succ]
        refine tk 9 rfl (by kernel_rfl) hHeld (fun _ _ _ h => h) (v := ?_) ?_ ?_
        rotate_left 1
        · (intro w hSw; (try dsimp only at hSw); (try simp only [List.getElem_toArray, List.getElem_cons_succ, List.getElem_cons_zero]); go_simp) <;> (with_reducible rfl)
        try simp only [List.getElem_toArray, List.getElem_cons_succ, List.getElem_cons_zero, Act.put, List.setIfInBounds_toArray, List.set_cons_zero, List.set_cons_succ]
        refine tk 10 rfl (by kernel_rfl) hHeld (fun _ _ _ h => h) (v := ?_) ?_ ?_
        rotate_left 1
        · (intro w hSw; (try dsimp only at hSw); (try simp only [List.getElem_toArray, List.getElem_cons_succ, List.getElem_cons_zero]); go_simp) <;> (with_reducible rfl)
        try simp only [List.getElem_toArray, List.getElem_cons_succ, List.getElem_cons_zero, Act.put, List.setIfInBounds_toArray, List.set_cons_zero, List.set_cons_succ]
        refine tk 11 rfl (by kernel_rfl) hHeld (fun _ _ _ h => h) (v := ?_) ?_ ?_
        rotate_left 1
        · (intro w hSw; (try dsimp only at hSw); (try simp only [List.getElem_toArray, List.getElem_cons_succ, List.getElem_cons_zero]); go_simp) <;> (with_reducible rfl)
        try simp only [List.getElem_toArray, List.getElem_cons_succ, List.getElem_cons_zero, Act.put, List.setIfInBounds_toArray, List.set_cons_zero, List.set_cons_succ]
        refine tk 12 rfl (by kernel_rfl) hHeld (fun _ _ _ h => h) (v := ?_) ?_ ?_
        rotate_left 1
        · (intro w hSw; (try dsimp only at hSw); (try simp only [List.getElem_toArray, List.getElem_cons_succ, List.getElem_cons_zero]); go_simp) <;> (with_reducible rfl)
        try simp only [List.getElem_toArray, List.getElem_cons_succ, List.getElem_cons_zero, Act.put, List.setIfInBounds_toArray, List.set_cons_zero, List.set_cons_succ]
        refine tk 13 rfl (by kernel_rfl) hHeld (fun _ _ _ h => h) (v := ?_) ?_ ?_
        rotate_left 1
        · (intro w hSw; (try dsimp only at hSw); (try simp only [List.getElem_toArray, List.getElem_cons_succ, List.getElem_cons_zero]); go_simp) <;> (with_reducible rfl)
        try simp only [List.getElem_toArray, List.getElem_cons_succ, List.getElem_cons_zero, Act.put, List.setIfInBounds_toArray, List.set_cons_zero, List.set_cons_succ]
        refine tk 14 rfl (by kernel_rfl) hHeld (fun _ _ _ h => h) (v := ?_) ?_ ?_
        rotate_left 1
        · (intro w hSw; (try dsimp only at hSw); (try simp only [List.getElem_toArray, List.getElem_cons_succ, List.getElem_cons_zero]); go_simp) <;> (with_reducible rfl)
        try simp only [List.getElem_toArray, List.getElem_cons_succ, List.getElem_cons_zero, Act.put, List.setIfInBounds_toArray, List.set_cons_zero, List.set_cons_succ]
        refine tk 15 rfl (by kernel_rfl) hHeld (fun _ _ _ h => h) (v := ?_) ?_ ?_
        rotate_left 1
        · (intro w hSw; (try dsimp only at hSw); (try simp only [List.getElem_toArray, List.getElem_cons_succ, List.getElem_cons_zero]); go_simp) <;> (with_reducible rfl)
        try simp only [List.getElem_toArray, List.getElem_cons_succ, List.getElem_cons_zero, Act.put, List.setIfInBounds_toArray, List.set_cons_zero, List.set_cons_succ]
        refine wpAnyH_ready (rs := [16]) (by kernel_rfl) (by simp) (AllReadyH.cons rfl (fun K hK => ?_) AllReadyH.nil)
        simp only [List.getElem_toArray, List.getElem_cons_succ, List.getElem_cons_zero]
        go_simp
        go_at_call 29
        refine (SU.out wd bd).mono ?_
        rintro e wa ⟨rfl, bz⟩
        try go_wp2_with fail
        have ba := bd.trans (bz.mono bd.size)
        refine hK.out _ _ (CELL.out _ ba) (fun hHeld => ?_)
        clear hK K bz
        try simp only [List.getElem_toArray, List.getElem_cons_succ, List.getElem_cons_zero, Act.put, List.setIfInBounds_toArray, List.set_cons_zero, List.set_cons_succ]
        refine tk 17 rfl (by kernel_rfl) hHeld (fun _ _ _ h => h) (v := ?_) ?_ ?_
        rotate_left 1
        · (intro w hSw; (try dsimp only at hSw); (try simp only [List.getElem_toArray, List.getElem_cons_succ, List.getElem_cons_zero]); go_simp) <;> (with_reducible rfl)
        try simp only [List.getElem_toArray, List.getElem_cons_succ, List.getElem_cons_zero, Act.put, List.setIfInBounds_toArray, List.set_cons_zero, List.set_cons_succ]
        refine tk 18 rfl (by kernel_rfl) hHeld (fun _ _ _ h => h) (v := ?_) ?_ ?_
        rotate_left 1
        · (intro w hSw; (try dsimp only at hSw); (try simp only [List.getElem_toArray, List.getElem_cons_succ, List.getElem_cons_zero]); go_simp) <;> (with_reducible rfl)
        try simp only [List.getElem_toArray, List.getElem_cons_succ, List.getElem_cons_zero, Act.put, List.setIfInBounds_toArray, List.set_cons_zero, List.set_cons_succ]
        refine tk 19 rfl (by kernel_rfl) hHeld (fun _ _ _ h => h) (v := ?_) ?_ ?_
        rotate_left 1
        · (intro w hSw; (try dsimp only at hSw); (try simp only [List.getElem_toArray, List.getElem_cons_succ, List.getElem_cons_zero]); go_simp) <;> (with_reducible rfl)
        try simp only [List.getElem_toArray, List.getElem_cons_succ, List.getElem_cons_zero, Act.put, List.setIfInBounds_toArray, List.set_cons_zero, List.set_cons_succ]
        refine tk 20 rfl (by kernel_rfl) hHeld (fun _ _ _ h => h) (v := ?_) ?_ ?_
        rotate_left 1
        · (intro w hSw; (try dsimp only at hSw); (try simp only [List.getElem_toArray, List.getElem_cons_succ, List.getElem_cons_zero]); go_simp) <;> (with_reducible rfl)
        try simp only [List.getElem_toArray, List.getElem_cons_succ, List.getElem_cons_zero, Act.put, List.setIfInBounds_toArray, List.set_cons_zero, List.set_cons_succ]
        refine tk 21 rfl (by kernel_rfl) hHeld (fun _ _ _ h => h) (v := ?_) ?_ ?_
        rotate_left 1
        · (intro w hSw; (try dsimp only at hSw); (try simp only [List.getElem_toArray, List.getElem_cons_succ, List.getElem_cons_zero]); go_simp) <;> (with_reducible rfl)
        try simp only [List.getElem_toArray, List.getElem_cons_succ, List.getElem_cons_zero, Act.put, List.setIfInBounds_toArray, List.set_cons_zero, List.set_cons_succ]
        refine tk 22 rfl (by kernel_rfl) hHeld (fun _ _ _ h => h) (v := ?_) ?_ ?_
        rotate_left 1
        · (intro w hSw; (try dsimp only at hSw); (try simp only [List.getElem_toArray, List.getElem_cons_succ, List.getElem_cons_zero]); go_simp) <;> (with_reducible rfl)
        try simp only [List.getElem_toArray, List.getElem_cons_succ, List.getElem_cons_zero, Act.put, List.setIfInBounds_toArray, List.set_cons_zero, List.set_cons_succ]
        refine tk 23 rfl (by kernel_rfl) hHeld (fun _ _ _ h => h) (v := ?_) ?_ ?_
        rotate_left 1
        · (intro w hSw; (try dsimp only at hSw); (try simp only [List.getElem_toArray, List.getElem_cons_succ, List.getElem_cons_zero]); go_simp) <;> (with_reducible rfl)
        try simp only [List.getElem_toArray, List.getElem_cons_succ, List.getElem_cons_zero, Act.put, List.setIfInBounds_toArray, List.set_cons_zero, List.set_cons_succ]
        refine tk 24 rfl (by kernel_rfl) hHeld (fun _ _ _ h => h) (v := ?_) ?_ ?_
        rotate_left 1
        · (intro w hSw; (try dsimp only at hSw); (try simp only [List.getElem_toArray, List.getElem_cons_succ, List.getElem_cons_zero]); go_simp) <;> (with_reducible rfl)
        try simp only [List.getElem_toArray, List.getElem_cons_succ, List.getElem_cons_zero, Act.put, List.setIfInBounds_toArray, List.set_cons_zero, List.set_cons_succ]
        refine tk 25 rfl (by kernel_rfl) hHeld (fun _ _ _ h => h) (v := ?_) ?_ ?_
        rotate_left 1
        · (intro w hSw; (try dsimp only at hSw); (try simp only [List.getElem_toArray, List.getElem_cons_succ, List.getElem_cons_zero]); go_simp) <;> (with_reducible rfl)
        try simp only [List.getElem_toArray, List.getElem_cons_succ, List.getElem_cons_zero, Act.put, List.setIfInBounds_toArray, List.set_cons_zero, List.set_cons_succ]
        refine tk 26 rfl (by kernel_rfl) hHeld (fun _ _ _ h => h) (v := ?_) ?_ ?_
        rotate_left 1
        · (intro w hSw; (try dsimp only at hSw); (try simp only [List.getElem_toArray, List.getElem_cons_succ, List.getElem_cons_zero]); go_simp) <;> (with_reducible rfl)
        try simp only [List.getElem_toArray, List.getElem_cons_succ, List.getElem_cons_zero, Act.put, List.setIfInBounds_toArray, List.set_cons_zero, List.set_cons_succ]
        refine tk 27 rfl (by kernel_rfl) hHeld (fun _ _ _ h => h) (v := ?_) ?_ ?_
        rotate_left 1
        · (intro w hSw; (try dsimp only at hSw); (try simp only [List.getElem_toArray, List.getElem_cons_succ, List.getElem_cons_zero]); go_simp) <;> (with_reducible rfl)
        try simp only [List.getElem_toArray, List.getElem_cons_succ, List.getElem_cons_zero, Act.put, List.setIfInBounds_toArray, List.set_cons_zero, List.set_cons_succ]
        refine tk 28 rfl (by kernel_rfl) hHeld (fun _ _ _ h => h) (v := ?_) ?_ ?_
        rotate_left 1
        · (intro w hSw; (try dsimp only at hSw); (try simp only [List.getElem_toArray, List.getElem_cons_succ, List.getElem_cons_zero]); go_simp) <;> (with_reducible rfl)
        try simp only [List.getElem_toArray, List.getElem_cons_succ, List.getElem_cons_zero, Act.put, List.setIfInBounds_toArray, List.set_cons_zero, List.set_cons_succ]
        refine wpAnyH_done (by kernel_rfl) ?_ _
        have BA := Lib.hid ba
        clear ba bd hHeld
        obtain ⟨tt0, tt1, tt2, tt3, tt4, tt5, tt6, tt7, rr0, rr1, rr2, rr3, rr4, _⟩ := CELL.out _ BA.out
        obtain ⟨nn0, nn1, nn2, nn3, nn4, nn5, nn6, nn7, nn8, nn9, nn10⟩ := Q.hq_cells (HQ3.out.below (OI5.out.b.trans ((B6.out.trans (BA.out.mono B6.out.size)).mono OI5.out.b.size)))
        have hb2_ := HBE.out (by simp)
        have hb3_ : Q.endAt ck (List.map ((fun x => x.en) ∘ Q.Sm.a) ss5) k = la := HLA.out
        rw [hb3_] at hb2_
        have gmx : max la m37 = sb7 := hb2_.1.symm
        have dn := Q.dur_nonneg rt (⟨m07, m17, m27, m37, m47⟩ : Q.Ut)
        have h37 : 0 ≤ m37 := HSMA.out.2
        have gse : IntKind.i64.wrap (sb7 + D.words (m07.map (·.size)) rt) = se7 := by
          have h1 := hb2_.2
          have h2 := HEN.out
          have h3 := HT2.out
          have h4 : sb7 + D.words (m07.map (·.size)) rt = se7 := h1.symm
          have h5 : 0 ≤ D.words (m07.map (·.size)) rt := dn
          have h6 := of_decide_eq_false gM
          have h7 : m37 ≤ sb7 := by rw [← gmx]; exact Int.le_max_right _ _
          rw [h4]
          have h8 : 0 ≤ se7 := by omega
          have h9 := XT.out
          simp [IntKind.wrap, IntKind.bits, IntKind.signed]; omega
        clear hb2_ hb3_ dn h37
        go_wp2_with fail
        refine wp_normal ?_
        refine wp_region_held_drew (S := fun w' => w'.cell? ⟨wr.heap.size, 0, none⟩ = some (.slice f07 m07.length f17) ∧ w'.cell? ⟨wr.heap.size, 1, none⟩ = some (.slice f27 m17.length f37) ∧ w'.cell? ⟨wr.heap.size, 2, none⟩ = some (.int .i64 m27) ∧ w'.cell? ⟨wr.heap.size, 3, none⟩ = some (.int .i64 m37) ∧ w'.cell? ⟨wr.heap.size, 4, none⟩ = some (.int .i64 m47) ∧ w'.cell? ⟨wr.heap.size, 5, none⟩ = some (.int .i64 sb7) ∧ w'.cell? ⟨wr.heap.size, 6, none⟩ = some (.int .i64 se7) ∧ w'.cell? ⟨wr.heap.size, 7, none⟩ = some (.bool true) ∧ w'.cell? ⟨b1, o1 + k * 5, none⟩ = some (.slice z0 m07.length z1) ∧ w'.cell? ⟨b1, o1 + k * 5 + 1, none⟩ = some (.slice z2 m17.length z3) ∧ w'.cell? ⟨b1, o1 + k * 5 + 2, none⟩ = some (.int .i64 m27) ∧ w'.cell? ⟨b1, o1 + k * 5 + 3, none⟩ = some (.int .i64 m37) ∧ w'.cell? ⟨b1, o1 + k * 5 + 4, none⟩ = some (.int .i64 m47) ∧ w'.cell? ⟨w.heap.size, 0, none⟩ = some (.int .i64 ck) ∧ w'.cell? ⟨w.heap.size, 1, none⟩ = some (.int .i64 rt)) (by kernel_rfl) (CELL.out _ BA.out.drew) (fun hHeld => ?_)
        obtain ⟨we, hwe⟩ : ∃ we, wa.drew = we := ⟨_, rfl⟩
        have bd : Below w6.heap.size w6 we := by rw [← hwe]; exact BA.out.drew
        rw [hwe] at hHeld ⊢
        clear hwe
        refine tk 0 rfl (by kernel_rfl) hHeld (fun _ _ _ h => h) (v := ?_) ?_ ?_
        rotate_left 1
        · (intro w hSw; (try dsimp only at hSw); (try simp only [List.getElem_toArray, List.getElem_cons_succ, List.getElem_cons_zero]); go_simp) <;> (with_reducible rfl)
        try simp only [List.getElem_toArray, List.getElem_cons_succ, List.getElem_cons_zero, Act.put, List.setIfInBounds_toArray, List.set_cons_zero, List.set_cons_succ]
        refine tk 1 rfl (by kernel_rfl) hHeld (fun _ _ _ h => h) (v := ?_) ?_ ?_
        rotate_left 1
        · (intro w hSw; (try dsimp only at hSw); (try simp only [List.getElem_toArray, List.getElem_cons_succ, List.getElem_cons_zero]); go_simp) <;> (with_reducible rfl)
        try simp only [List.getElem_toArray, List.getElem_cons_succ, List.getElem_cons_zero, Act.put, List.setIfInBounds_toArray, List.set_cons_zero, List.set_cons_succ]
        refine tk 2 rfl (by kernel_rfl) hHeld (fun _ _ _ h => h) (v := ?_) ?_ ?_
        rotate_left 1
        · (intro w hSw; (try dsimp only at hSw); (try simp only [List.getElem_toArray, List.getElem_cons_succ, List.getElem_cons_zero]); go_simp) <;> (with_reducible rfl)
        try simp only [List.getElem_toArray, List.getElem_cons_succ, List.getElem_cons_zero, Act.put, List.setIfInBounds_toArray, List.set_cons_zero, List.set_cons_succ]
        refine tk 3 rfl (by kernel_rfl) hHeld (fun _ _ _ h => h) (v := ?_) ?_ ?_
        rotate_left 1
        · (intro w hSw; (try dsimp only at hSw); (try simp only [List.getElem_toArray, List.getElem_cons_succ, List.getElem_cons_zero]); go_simp) <;> (with_reducible rfl)
        try simp only [List.getElem_toArray, List.getElem_cons_succ, List.getElem_cons_zero, Act.put, List.setIfInBounds_toArray, List.set_cons_zero, List.set_cons_succ]
        refine tk 4 rfl (by kernel_rfl) hHeld (fun _ _ _ h => h) (v := ?_) ?_ ?_
        rotate_left 1
        · (intro w hSw; (try dsimp only at hSw); (try simp only [List.getElem_toArray, List.getElem_cons_succ, List.getElem_cons_zero]); go_simp) <;> (with_reducible rfl)
        try simp only [List.getElem_toArray, List.getElem_cons_succ, List.getElem_cons_zero, Act.put, List.setIfInBounds_toArray, List.set_cons_zero, List.set_cons_succ]
        refine tk 5 rfl (by kernel_rfl) hHeld (fun _ _ _ h => h) (v := ?_) ?_ ?_
        rotate_left 1
        · (intro w hSw; (try dsimp only at hSw); (try simp only [List.getElem_toArray, List.getElem_cons_succ, List.getElem_cons_zero]); go_simp) <;> (with_reducible rfl)
        try simp only [List.getElem_toArray, List.getElem_cons_succ, List.getElem_cons_zero, Act.put, List.setIfInBounds_toArray, List.set_cons_zero, List.set_cons_succ]
        refine tk 6 rfl (by kernel_rfl) hHeld (fun _ _ _ h => h) (v := ?_) ?_ ?_
        rotate_left 1
        · (intro w hSw; (try dsimp only at hSw); (try simp only [List.getElem_toArray, List.getElem_cons_succ, List.getElem_cons_zero]); go_simp) <;> (with_reducible rfl)
        try simp only [List.getElem_toArray, List.getElem_cons_succ, List.getElem_cons_zero, Act.put, List.setIfInBounds_toArray, List.set_cons_zero, List.set_cons_succ]
        refine tk 7 rfl (by kernel_rfl) hHeld (fun _ _ _ h => h) (v := ?_) ?_ ?_
        rotate_left 1
        · (intro w hSw; (try dsimp only at hSw); (try simp only [List.getElem_toArray, List.getElem_cons_succ, List.getElem_cons_zero]); go_simp) <;> (with_reducible rfl)
        try simp only [List.getElem_toArray, List.getElem_cons_succ, List.getElem_cons_zero, Act.put, List.setIfInBounds_toArray, List.set_cons_zero, List.set_cons_succ]
        refine tk 8 rfl (by kernel_rfl) hHeld (fun _ _ _ h => h) (v := ?_) ?_ ?_
        rotate_left 1
        · (intro w hSw; (try dsimp only at hSw); (try simp only [List.getElem_toArray, List.getElem_cons_succ, List.getElem_cons_zero]); go_simp) <;> (with_reducible rfl)
        try simp only [List.getElem_toArray, List.getElem_cons_succ, List.getElem_cons_zero, Act.put, List.setIfInBounds_toArray, List.set_cons_zero, List.set_cons_succ]
        refine tk 9 rfl (by kernel_rfl) hHeld (fun _ _ _ h => h) (v := ?_) ?_ ?_
        rotate_left 1
        · (intro w hSw; (try dsimp only at hSw); (try simp only [List.getElem_toArray, List.getElem_cons_succ, List.getElem_cons_zero]); go_simp) <;> (with_reducible rfl)
        try simp only [List.getElem_toArray, List.getElem_cons_succ, List.getElem_cons_zero, Act.put, List.setIfInBounds_toArray, List.set_cons_zero, List.set_cons_succ]
        refine tk 10 rfl (by kernel_rfl) hHeld (fun _ _ _ h => h) (v := ?_) ?_ ?_
        rotate_left 1
        · (intro w hSw; (try dsimp only at hSw); (try simp only [List.getElem_toArray, List.getElem_cons_succ, List.getElem_cons_zero]); go_simp) <;> (with_reducible rfl)
        try simp only [List.getElem_toArray, List.getElem_cons_succ, List.getElem_cons_zero, Act.put, List.setIfInBounds_toArray, List.set_cons_zero, List.set_cons_succ]
        refine tk 11 rfl (by kernel_rfl) hHeld (fun _ _ _ h => h) (v := ?_) ?_ ?_
        rotate_left 1
        · (intro w hSw; (try dsimp only at hSw); (try simp only [List.getElem_toArray, List.getElem_cons_succ, List.getElem_cons_zero]); go_simp) <;> (with_reducible rfl)
        try simp only [List.getElem_toArray, List.getElem_cons_succ, List.getElem_cons_zero, Act.put, List.setIfInBounds_toArray, List.set_cons_zero, List.set_cons_succ]
        refine tk 12 rfl (by kernel_rfl) hHeld (fun _ _ _ h => h) (v := ?_) ?_ ?_
        rotate_left 1
        · (intro w hSw; (try dsimp only at hSw); (try simp only [List.getElem_toArray, List.getElem_cons_succ, List.getElem_cons_zero]); go_simp) <;> (with_reducible rfl)
        try simp only [List.getElem_toArray, List.getElem_cons_succ, List.getElem_cons_zero, Act.put, List.setIfInBounds_toArray, List.set_cons_zero, List.set_cons_succ]
        refine tk 13 rfl (by kernel_rfl) hHeld (fun _ _ _ h => h) (v := ?_) ?_ ?_
        rotate_left 1
        · (intro w hSw; (try dsimp only at hSw); (try simp only [List.getElem_toArray, List.getElem_cons_succ, List.getElem_cons_zero]); go_simp) <;> (with_reducible rfl)
        try simp only [List.getElem_toArray, List.getElem_cons_succ, List.getElem_cons_zero, Act.put, List.setIfInBounds_toArray, List.set_cons_zero, List.set_cons_succ]
        refine tk 14 rfl (by kernel_rfl) hHeld (fun _ _ _ h => h) (v := ?_) ?_ ?_
        rotate_left 1
        · (intro w hSw; (try dsimp only at hSw); (try simp only [List.getElem_toArray, List.getElem_cons_succ, List.getElem_cons_zero]); go_simp) <;> (with_reducible rfl)
        try simp only [List.getElem_toArray, List.getElem_cons_succ, List.getElem_cons_zero, Act.put, List.setIfInBounds_toArray, List.set_cons_zero, List.set_cons_succ]
        refine wpAnyH_ready (rs := [15]) (by kernel_rfl) (by simp) (AllReadyH.cons rfl (fun K hK => ?_) AllReadyH.nil)
        simp only [List.getElem_toArray, List.getElem_cons_succ, List.getElem_cons_zero]
        go_simp
        go_at_call 30
        refine (WU.out we bd).mono ?_
        rintro e wb ⟨rfl, bz⟩
        try go_wp2_with fail
        have bb := bd.trans (bz.mono bd.size)
        refine hK.out _ _ (CELL.out _ bb) (fun hHeld => ?_)
        clear hK K bz
        try simp only [List.getElem_toArray, List.getElem_cons_succ, List.getElem_cons_zero, Act.put, List.setIfInBounds_toArray, List.set_cons_zero, List.set_cons_succ]
        refine tk 16 rfl (by kernel_rfl) hHeld (fun _ _ _ h => h) (v := ?_) ?_ ?_
        rotate_left 1
        · (intro w hSw; (try dsimp only at hSw); (try simp only [List.getElem_toArray, List.getElem_cons_succ, List.getElem_cons_zero]); go_simp) <;> (with_reducible rfl)
        try simp only [List.getElem_toArray, List.getElem_cons_succ, List.getElem_cons_zero, Act.put, List.setIfInBounds_toArray, List.set_cons_zero, List.set_cons_succ]
        refine tk 17 rfl (by kernel_rfl) hHeld (fun _ _ _ h => h) (v := ?_) ?_ ?_
        rotate_left 1
        · (intro w hSw; (try dsimp only at hSw); (try simp only [List.getElem_toArray, List.getElem_cons_succ, List.getElem_cons_zero]); go_simp) <;> (with_reducible rfl)
        try simp only [List.getElem_toArray, List.getElem_cons_succ, List.getElem_cons_zero, Act.put, List.setIfInBounds_toArray, List.set_cons_zero, List.set_cons_succ]
        refine tk 18 rfl (by kernel_rfl) hHeld (fun _ _ _ h => h) (v := ?_) ?_ ?_
        rotate_left 1
        · (intro w hSw; (try dsimp only at hSw); (try simp only [List.getElem_toArray, List.getElem_cons_succ, List.getElem_cons_zero]); go_simp) <;> (with_reducible rfl)
        try simp only [List.getElem_toArray, List.getElem_cons_succ, List.getElem_cons_zero, Act.put, List.setIfInBounds_toArray, List.set_cons_zero, List.set_cons_succ]
        refine wpAnyH_done (by kernel_rfl) ?_ _
        have BE := Lib.hid bb
        clear bb bd hHeld nn0 tt0 tt1 tt2 tt3 tt4 tt5 tt6 tt7 rr0 rr1 rr2 rr3 rr4 nn1 nn2 nn3 nn4 nn5 nn6 nn7 nn8 nn9 nn10
        obtain ⟨tt0, tt1, tt2, tt3, tt4, tt5, tt6, tt7, _⟩ := CELL.out _ BE.out
        go_wp2_with fail
        go_roundw
        case rel => exact ⟨k + 1, by omega, by go_num, by rw [show Q.endAt ck (ss5.map (·.en)) (k + 1) = se7 from by simp [Q.endAt, hlt, HSM.out]], by go_num, Lib.hid (B6.out.trans (BE.out.mono B6.out.size))⟩
        case measure => simp [intOf] <;> omega
      · obtain rfl : k = ss5.length := by omega
        have q0 : decide ((ss5.length : Int) < (ss5.length : Int)) = false := decide_eq_false (by omega)
        clear hlt
        have o6 := OI5.out.below hB.out OI5.out.sz
        have o7 := o6.below (below_box wr (.cells #[] 25)) o6.sz
        have hq7 := HQ3.out.below o7.b
        obtain ⟨ka0, ka1, ka2, ka3, ka4, ka5, ka6, ka7, ka8, ka9, ka10⟩ := Q.hq_cells hq7
        have v7 := o7.v
        have kr0 := cell_of_block_ (i := 0) v7
        have kr1 := cell_of_block_ (i := 1) v7
        have kr2 := cell_of_block_ (i := 2) v7
        have kr3 := cell_of_block_ (i := 3) v7
        have kr4 := cell_of_block_ (i := 4) v7
        have kr5 := cell_of_block_ (i := 5) v7
        have kr6 := cell_of_block_ (i := 6) v7
        have kr7 := cell_of_block_ (i := 7) v7
        have kr8 := cell_of_block_ (i := 8) v7
        have kr9 := cell_of_block_ (i := 9) v7
        have kr10 := cell_of_block_ (i := 10) v7
        simp at kr0 kr1 kr2 kr3 kr4 kr5 kr6 kr7 kr8 kr9 kr10
        have SZ7 : Hid (wr.heap.size ≤ (wr.alloc (.cells #[] 25)).heap.size) := Lib.hid (by simp)
        have OW := Lib.hid (World.ownsRow_lit (base := wr.heap.size) (e := 25) (size := 5) wr #[] 0 (Nat.le_refl _) (by decide) rfl)
        have hck5 : ck5 = t2 := by have := XK.out; rw [← E5.out] at this; exact this
        subst hck5
        have XTL := Lib.hid (Q.ord_tail OF.out.1 E5.out ES5.out AU.out)
        obtain ⟨A9, SLC, US9⟩ := Q.slice_from A7 it (k := ss5.length) (c := c7) HLN.out HC7.out
        obtain ⟨l9, hl9_⟩ : ∃ l, List.drop ss5.length it = l := ⟨_, rfl⟩
        rw [hl9_] at XTL US9
        simp only [hl9_] at SLC
        have l9s : l9.length ≤ 17 := by rw [← hl9_, List.length_drop]; omega
        have US9b : Hid (Q.UsIn w5 w5.heap.size A9 l9) := Lib.hid (US9 _ _ ⟨HRD.out, fun m hm => ((AI.out m hm).below OI5.out.b (Nat.le_refl _)).more OI5.out.b.size⟩)
        have US9s : Hid (∀ m ∈ l9, Q.Small m.u) := Lib.hid (fun m hm => (AS.out m (by rw [← hl9_] at hm; exact List.mem_of_mem_drop hm)).1)
        have hi5 : it5.length ≤ 16 := by have := XS.out.1; rw [← E5.out] at this; simpa [Q.Qm.a] using this
        have B5 := Lib.hid (B3.out.trans (OI5.out.b.mono B3.out.size))
        have CELL2 : Hid (∀ W : World, Below w5.heap.size w5 W → (W.cell? ⟨w.heap.size, 0, none⟩ = some (.int .i64 ck) ∧ W.cell? ⟨w3.heap.size, 0, none⟩ = some (.int .i64 ck5) ∧ W.cell? ⟨w3.heap.size, 10, none⟩ = some (.slice ai5 it5.length ci5))) := Lib.hid (fun W hb => ⟨(Q.hq_cells (HQ3.out.below (OI5.out.b.trans (hb.mono OI5.out.b.size)))).1, by have h := cell_of_block_ (i := 0) (OI5.out.below hb OI5.out.sz).v; simpa using h, by have h := cell_of_block_ (i := 10) (OI5.out.below hb OI5.out.sz).v; simpa using h⟩)
        have BF7 := Lib.hid (hB.out.trans ((below_box wr (.cells #[] 25)).mono hB.out.size))
        clear o6 o7 hq7 v7 hl9_ US9
        cases sp5 with
        | false =>
          go_wp2_with fail
          obtain ⟨W9, hW9⟩ : ∃ W, (wr.alloc (.cells #[] 25)) = W := ⟨_, rfl⟩
          rw [hW9] at SZ7 OW BF7 ⊢
          clear hW9 ka0 ka1 ka2 ka3 ka4 ka5 ka6 ka7 ka8 ka9 ka10 kr0 kr1 kr2 kr3 kr4 kr5 kr6 kr7 kr8 kr9 kr10
          have LST : Hid (Q.allU (⟨ck5, rt5, false, ⟨⟨p05, p15, p25, p35, p45⟩, a05, c05, a15, c15⟩, be5, en5, it5, ai5, ci5⟩ : Q.Qm) = [] ++ it5) := Lib.hid rfl
          have EL8 : Hid (∀ m ∈ ([] : List Q.Um), Q.UIn w3 w3.heap.size m) := Lib.hid (fun m hm => by cases hm)
          have OWX : Hid (W9.ownsRow wr.heap.size 25 5 (.slice (some ⟨wr.heap.size, 0, none⟩) 0 0) 0 (Q.ucs [])) := Lib.hid OW.out
          clear OW
          refine wp_normal ?_
          refine wp_region_held_drew (S := fun w' => w'.cell? ⟨w.heap.size, 0, none⟩ = some (.int .i64 ck) ∧ w'.cell? ⟨w3.heap.size, 0, none⟩ = some (.int .i64 ck5) ∧ w'.cell? ⟨w3.heap.size, 10, none⟩ = some (.slice ai5 it5.length ci5)) (by kernel_rfl) (CELL2.out _ BF7.out.drew) (fun hHeld => ?_)
          obtain ⟨wd, hwd⟩ : ∃ wd, W9.drew = wd := ⟨_, rfl⟩
          have bd : Hid (Below w5.heap.size w5 wd) := Lib.hid (by rw [← hwd]; exact BF7.out.drew)
          have sd : Hid (wr.heap.size ≤ wd.heap.size) := Lib.hid (by rw [← hwd]; exact SZ7.out)
          have od : Hid (wd.ownsRow wr.heap.size 25 5 (.slice (some ⟨wr.heap.size, 0, none⟩) 0 0) 0 (Q.ucs ([] : List Q.Um))) := Lib.hid (by rw [← hwd]; exact OWX.out.drew)
          rw [hwd] at hHeld ⊢
          clear hwd
          refine tk 0 rfl (by kernel_rfl) hHeld (fun _ _ _ h => h) (v := ?_) ?_ ?_
          rotate_left 1
          · (intro w hSw; (try dsimp only at hSw); (try simp only [List.getElem_toArray, List.getElem_cons_succ, List.getElem_cons_zero]); go_simp) <;> (with_reducible rfl)
          try simp only [List.getElem_toArray, List.getElem_cons_succ, List.getElem_cons_zero, Act.put, List.setIfInBounds_toArray, List.set_cons_zero, List.set_cons_succ]
          refine tk 1 rfl (by kernel_rfl) hHeld (fun _ _ _ h => h) (v := ?_) ?_ ?_
          rotate_left 1
          · (intro w hSw; (try dsimp only at hSw); (try simp only [List.getElem_toArray, List.getElem_cons_succ, List.getElem_cons_zero]); go_simp) <;> (with_reducible rfl)
          try simp only [List.getElem_toArray, List.getElem_cons_succ, List.getElem_cons_zero, Act.put, List.setIfInBounds_toArray, List.set_cons_zero, List.set_cons_succ]
          refine tk 2 rfl (by kernel_rfl) hHeld (fun _ _ _ h => h) (v := ?_) ?_ ?_
          rotate_left 1
          · (intro w hSw; (try dsimp only at hSw); (try simp only [List.getElem_toArray, List.getElem_cons_succ, List.getElem_cons_zero]); go_simp) <;> (with_reducible rfl)
          try simp only [List.getElem_toArray, List.getElem_cons_succ, List.getElem_cons_zero, Act.put, List.setIfInBounds_toArray, List.set_cons_zero, List.set_cons_succ]
          refine tk 3 rfl (by kernel_rfl) hHeld (fun _ _ _ h => h) (v := ?_) ?_ ?_
          rotate_left 1
          · (intro w hSw; (try dsimp only at hSw); (try simp only [List.getElem_toArray, List.getElem_cons_succ, List.getElem_cons_zero]); go_simp) <;> (with_reducible rfl)
          try simp only [List.getElem_toArray, List.getElem_cons_succ, List.getElem_cons_zero, Act.put, List.setIfInBounds_toArray, List.set_cons_zero, List.set_cons_succ]
          refine tk 4 rfl (by kernel_rfl) hHeld (fun _ _ _ h => h) (v := ?_) ?_ ?_
          rotate_left 1
          · (intro w hSw; (try dsimp only at hSw); (try simp only [List.getElem_toArray, List.getElem_cons_succ, List.getElem_cons_zero]); go_simp) <;> (with_reducible rfl)
          try simp only [List.getElem_toArray, List.getElem_cons_succ, List.getElem_cons_zero, Act.put, List.setIfInBounds_toArray, List.set_cons_zero, List.set_cons_succ]
          refine tk 5 rfl (by kernel_rfl) hHeld (fun _ _ _ h => h) (v := ?_) ?_ ?_
          rotate_left 1
          · (intro w hSw; (try dsimp only at hSw); (try simp only [List.getElem_toArray, List.getElem_cons_succ, List.getElem_cons_zero]); go_simp) <;> (with_reducible rfl)
          try simp only [List.getElem_toArray, List.getElem_cons_succ, List.getElem_cons_zero, Act.put, List.setIfInBounds_toArray, List.set_cons_zero, List.set_cons_succ]
          refine tk 6 rfl (by kernel_rfl) hHeld (fun _ _ _ h => h) (v := ?_) ?_ ?_
          rotate_left 1
          · (intro w hSw; (try dsimp only at hSw); (try simp only [List.getElem_toArray, List.getElem_cons_succ, List.getElem_cons_zero]); go_simp) <;> (with_reducible rfl)
          try simp only [List.getElem_toArray, List.getElem_cons_succ, List.getElem_cons_zero, Act.put, List.setIfInBounds_toArray, List.set_cons_zero, List.set_cons_succ]
          refine tk 7 rfl (by kernel_rfl) hHeld (fun _ _ _ h => h) (v := ?_) ?_ ?_
          rotate_left 1
          · (intro w hSw; (try dsimp only at hSw); (try simp only [List.getElem_toArray, List.getElem_cons_succ, List.getElem_cons_zero]); go_simp) <;> (with_reducible rfl)
          try simp only [List.getElem_toArray, List.getElem_cons_succ, List.getElem_cons_zero, Act.put, List.setIfInBounds_toArray, List.set_cons_zero, List.set_cons_succ]
          refine tk 8 rfl (by kernel_rfl) hHeld (fun _ _ _ h => h) (v := ?_) ?_ ?_
          rotate_left 1
          · (intro w hSw; (try dsimp only at hSw); (try simp only [List.getElem_toArray, List.getElem_cons_succ, List.getElem_cons_zero]); go_simp) <;> (with_reducible rfl)
          try simp only [List.getElem_toArray, List.getElem_cons_succ, List.getElem_cons_zero, Act.put, List.setIfInBounds_toArray, List.set_cons_zero, List.set_cons_succ]
          refine tk 9 rfl (by kernel_rfl) hHeld (fun _ _ _ h => h) (v := ?_) ?_ ?_
          rotate_left 1
          · (intro w hSw; (try dsimp only at hSw); (try simp only [List.getElem_toArray, List.getElem_cons_succ, List.getElem_cons_zero]); go_simp) <;> (with_reducible rfl)
          try simp only [List.getElem_toArray, List.getElem_cons_succ, List.getElem_cons_zero, Act.put, List.setIfInBounds_toArray, List.set_cons_zero, List.set_cons_succ]
          refine tk 10 rfl (by kernel_rfl) hHeld (fun _ _ _ h => h) (v := ?_) ?_ ?_
          rotate_left 1
          · (intro w hSw; (try dsimp only at hSw); (try simp only [List.getElem_toArray, List.getElem_cons_succ, List.getElem_cons_zero]); go_simp) <;> (with_reducible rfl)
          try simp only [List.getElem_toArray, List.getElem_cons_succ, List.getElem_cons_zero, Act.put, List.setIfInBounds_toArray, List.set_cons_zero, List.set_cons_succ]
          refine tk 11 rfl (by kernel_rfl) hHeld (fun _ _ _ h => h) (v := ?_) ?_ ?_
          rotate_left 1
          · (intro w hSw; (try dsimp only at hSw); (try simp only [List.getElem_toArray, List.getElem_cons_succ, List.getElem_cons_zero]); go_simp) <;> (with_reducible rfl)
          try simp only [List.getElem_toArray, List.getElem_cons_succ, List.getElem_cons_zero, Act.put, List.setIfInBounds_toArray, List.set_cons_zero, List.set_cons_succ]
          refine tk 12 rfl (by kernel_rfl) hHeld (fun _ _ _ h => h) (v := ?_) ?_ ?_
          rotate_left 1
          · (intro w hSw; (try dsimp only at hSw); (try simp only [List.getElem_toArray, List.getElem_cons_succ, List.getElem_cons_zero]); go_simp) <;> (with_reducible rfl)
          try simp only [List.getElem_toArray, List.getElem_cons_succ, List.getElem_cons_zero, Act.put, List.setIfInBounds_toArray, List.set_cons_zero, List.set_cons_succ]
          refine tk 13 rfl (by kernel_rfl) hHeld (fun _ _ _ h => h) (v := ?_) ?_ ?_
          rotate_left 1
          · (intro w hSw; (try dsimp only at hSw); (try simp only [List.getElem_toArray, List.getElem_cons_succ, List.getElem_cons_zero]); go_simp) <;> (with_reducible rfl)
          try simp only [List.getElem_toArray, List.getElem_cons_succ, List.getElem_cons_zero, Act.put, List.setIfInBounds_toArray, List.set_cons_zero, List.set_cons_succ]
          refine tk 14 rfl (by kernel_rfl) hHeld (fun _ _ _ h => h) (v := ?_) ?_ ?_
          rotate_left 1
          · (intro w hSw; (try dsimp only at hSw); (try simp only [List.getElem_toArray, List.getElem_cons_succ, List.getElem_cons_zero]); go_simp) <;> (with_reducible rfl)
          try simp only [List.getElem_toArray, List.getElem_cons_succ, List.getElem_cons_zero, Act.put, List.setIfInBounds_toArray, List.set_cons_zero, List.set_cons_succ]
          refine tk 15 rfl (by kernel_rfl) hHeld (fun _ _ _ h => h) (v := ?_) ?_ ?_
          rotate_left 1
          · (intro w hSw; (try dsimp only at hSw); (try simp only [List.getElem_toArray, List.getElem_cons_succ, List.getElem_cons_zero]); go_simp) <;> (with_reducible rfl)
          try simp only [List.getElem_toArray, List.getElem_cons_succ, List.getElem_cons_zero, Act.put, List.setIfInBounds_toArray, List.set_cons_zero, List.set_cons_succ]
          refine tk 17 rfl (by kernel_rfl) hHeld (fun _ _ _ h => h) (v := ?_) ?_ ?_
          rotate_left 1
          · (intro w hSw; (try dsimp only at hSw); (try simp only [List.getElem_toArray, List.getElem_cons_succ, List.getElem_cons_zero]); go_simp) <;> (with_reducible rfl)
          try simp only [List.getElem_toArray, List.getElem_cons_succ, List.getElem_cons_zero, Act.put, List.setIfInBounds_toArray, List.set_cons_zero, List.set_cons_succ]
          refine tk 18 rfl (by kernel_rfl) hHeld (fun _ _ _ h => h) (v := ?_) ?_ ?_
          rotate_left 1
          · (intro w hSw; (try dsimp only at hSw); (try simp only [List.getElem_toArray, List.getElem_cons_succ, List.getElem_cons_zero]); go_simp) <;> (with_reducible rfl)
          try simp only [List.getElem_toArray, List.getElem_cons_succ, List.getElem_cons_zero, Act.put, List.setIfInBounds_toArray, List.set_cons_zero, List.set_cons_succ]
          refine tk 19 rfl (by kernel_rfl) hHeld (fun _ _ _ h => h) (v := ?_) ?_ ?_
          rotate_left 1
          · (intro w hSw; (try dsimp only at hSw); (try simp only [List.getElem_toArray, List.getElem_cons_succ, List.getElem_cons_zero]); go_simp) <;> (with_reducible rfl)
          try simp only [List.getElem_toArray, List.getElem_cons_succ, List.getElem_cons_zero, Act.put, List.setIfInBounds_toArray, List.set_cons_zero, List.set_cons_succ]
          refine wpAnyH_ready (rs := [16]) (by kernel_rfl) (by simp) (AllReadyH.cons rfl (fun K hK => ?_) AllReadyH.nil)
          refine step_append_want _ (by kernel_rfl) (.tmp 155) (.tmp 157) 26 rfl wr.heap.size 25 iU _ 5 72 Try.underlying26 hiU hU0 hU1 hU2 rfl (by omega) (.slice (some ⟨wr.heap.size, 0, none⟩) 0 0) 0 (Q.ucs ([] : List Q.Um)) rfl od.out w3.heap.size ai5 it5.length _ _ rfl ((I5.out.items.row).below (OI5.out.b.trans (bd.out.mono OI5.out.b.size)) (Nat.le_refl _)) (Q.ucs_one _) (by simp only [maxLen]; omega) (by omega) sd.out ?_
          intro v6 wa hown6 hg6 _
          have g6 := Q.below_turn sd.out hg6 (fun r e => (od.out.lt r e).1)
          obtain ⟨A10, c10, rfl, hrd6, hc6⟩ := own_reads_cap hown6
          have ba : Hid (Below w5.heap.size w5 wa) := Lib.hid (bd.out.trans (g6.mono (Nat.le_trans hB.out.size (Nat.le_refl _))))
          have hl10 : ([] : List Q.Um).length + it5.length = (([] : List Q.Um) ++ it5).length := by rw [List.length_append]
          have U10 : Hid (Q.UsIn wa wa.heap.size A10 (([] : List Q.Um) ++ it5)) := Lib.hid (Q.us_own (c := c10) (by rw [show Q.ucs (([] : List Q.Um) ++ it5) = Q.ucs ([] : List Q.Um) ++ Q.ucs it5 from by simp [Q.ucs]]; exact hown6) hl10 (fun m hm => by rcases List.mem_append.1 hm with hm | hm; exact ((EL8.out m hm).below (OI5.out.b.trans (ba.out.mono OI5.out.b.size)) (Nat.le_refl _)).more (Nat.le_trans OI5.out.b.size ba.out.size); exact ((I5.out.items.el m hm).below (OI5.out.b.trans (ba.out.mono OI5.out.b.size)) (Nat.le_refl _)).more (Nat.le_trans OI5.out.b.size ba.out.size)))
          have SU := sameuts_any A10 A9 c10 (c7 - ss5.length) wa.heap.size (([] : List Q.Um) ++ it5) l9 wa U10.out ((US9b.out.below ba.out (Nat.le_refl _)).more ba.out.size) (Nat.le_refl _) (by rw [← LST.out]; exact XTL.out) (by rw [← hl10]; simp only [List.length_cons, List.length_nil, maxLen]; omega) (fun m hm => by have h1 : m.u ∈ l9.map (·.u) := (by rw [← XTL.out, LST.out]; exact List.mem_map.2 ⟨m, hm, rfl⟩); obtain ⟨m2, h2, h3⟩ := List.mem_map.1 h1; rw [← h3]; exact (US9s.out m2 h2).ok)
          rw [← hl10] at SU
          simp only [List.length_nil, List.length_cons, Nat.zero_add] at SU
          have SUh := Lib.hid SU
          clear SU U10 hl10 hrd6 hc6 g6 hown6 hg6
          refine hK.out _ _ (CELL2.out _ ba.out) (fun hHeld => ?_)
          clear hK K
          try simp only [List.getElem_toArray, List.getElem_cons_succ, List.getElem_cons_zero, Act.put, List.setIfInBounds_toArray, List.set_cons_zero, List.set_cons_succ]
          refine wpAnyH_ready (rs := [20]) (by kernel_rfl) (by simp) (AllReadyH.cons rfl (fun K hK => ?_) AllReadyH.nil)
          simp only [List.getElem_toArray, List.getElem_cons_succ, List.getElem_cons_zero]
          go_simp
          go_at_call 31
          refine SUh.out.mono ?_
          clear SUh
          rintro e wb ⟨rfl, bz⟩
          try go_wp2_with fail
          have bb : Hid (Below w5.heap.size w5 wb) := Lib.hid (ba.out.trans (bz.mono ba.out.size))
          refine hK.out _ _ (CELL2.out _ bb.out) (fun hHeld => ?_)
          clear hK K bz
          try simp only [List.getElem_toArray, List.getElem_cons_succ, List.getElem_cons_zero, Act.put, List.setIfInBounds_toArray, List.set_cons_zero, List.set_cons_succ]
          refine tk 21 rfl (by kernel_rfl) hHeld (fun _ _ _ h => h) (v := ?_) ?_ ?_
          rotate_left 1
          · (intro w hSw; (try dsimp only at hSw); (try simp only [List.getElem_toArray, List.getElem_cons_succ, List.getElem_cons_zero]); go_simp) <;> (with_reducible rfl)
          try simp only [List.getElem_toArray, List.getElem_cons_succ, List.getElem_cons_zero, Act.put, List.setIfInBounds_toArray, List.set_cons_zero, List.set_cons_succ]
          refine tk 22 rfl (by kernel_rfl) hHeld (fun _ _ _ h => h) (v := ?_) ?_ ?_
          rotate_left 1
          · (intro w hSw; (try dsimp only at hSw); (try simp only [List.getElem_toArray, List.getElem_cons_succ, List.getElem_cons_zero]); go_simp) <;> (with_reducible rfl)
          try simp only [List.getElem_toArray, List.getElem_cons_succ, List.getElem_cons_zero, Act.put, List.setIfInBounds_toArray, List.set_cons_zero, List.set_cons_succ]
          refine wpAnyH_ready (rs := [23]) (by kernel_rfl) (by simp) (AllReadyH.cons rfl (fun K hK => ?_) AllReadyH.nil)
          simp only [List.getElem_toArray, List.getElem_cons_succ, List.getElem_cons_zero]
          go_simp
          go_at_call 13
          refine (AWK.out _).mono ?_
          rintro e wc ⟨rfl, bz⟩
          try go_wp2_with fail
          have bc : Hid (Below w5.heap.size w5 wc) := Lib.hid (bb.out.trans (bz.mono bb.out.size))
          refine hK.out _ _ (CELL2.out _ bc.out) (fun hHeld => ?_)
          clear hK K bz
          try simp only [List.getElem_toArray, List.getElem_cons_succ, List.getElem_cons_zero, Act.put, List.setIfInBounds_toArray, List.set_cons_zero, List.set_cons_succ]
          refine tk 24 rfl (by kernel_rfl) hHeld (fun _ _ _ h => h) (v := ?_) ?_ ?_
          rotate_left 1
          · (intro w hSw; (try dsimp only at hSw); (try simp only [List.getElem_toArray, List.getElem_cons_succ, List.getElem_cons_zero]); go_simp) <;> (with_reducible rfl)
          try simp only [List.getElem_toArray, List.getElem_cons_succ, List.getElem_cons_zero, Act.put, List.setIfInBounds_toArray, List.set_cons_zero, List.set_cons_succ]
          refine tk 25 rfl (by kernel_rfl) hHeld (fun _ _ _ h => h) (v := ?_) ?_ ?_
          rotate_left 1
          · (intro w hSw; (try dsimp only at hSw); (try simp only [List.getElem_toArray, List.getElem_cons_succ, List.getElem_cons_zero]); go_simp) <;> (with_reducible rfl)
          try simp only [List.getElem_toArray, List.getElem_cons_succ, List.getElem_cons_zero, Act.put, List.setIfInBounds_toArray, List.set_cons_zero, List.set_cons_succ]
          refine wpAnyH_done (by kernel_rfl) ?_ _
          have BE := Lib.hid (B5.out.trans (bc.out.mono B5.out.size))
          clear hHeld
          go_wp2_with fail
          go_ret
          exact ⟨rfl, BE.out⟩
        | true =>
          go_wp2_with (first
            | (at_builtin; (have RDC : Reads ((wr.alloc (.cells #[] 25)).alloc (.cells #[.slice a05 p05.length c05, .slice a15 p15.length c15, .int .i64 p25, .int .i64 p35, .int .i64 p45] 25)) ((wr.alloc (.cells #[] 25)).alloc (.cells #[.slice a05 p05.length c05, .slice a15 p15.length c15, .int .i64 p25, .int .i64 p35, .int .i64 p45] 25)).heap.size 5 (some ⟨wr.heap.size + 1, 0, none⟩) 1 (Q.ucs [⟨⟨p05, p15, p25, p35, p45⟩, a05, c05, a15, c15⟩]) := by have h := Reads.of_own (World.ownsRow_lit (base := (wr.alloc (.cells #[] 25)).heap.size) (e := 25) (size := 5) (wr.alloc (.cells #[] 25)) #[.slice a05 p05.length c05, .slice a15 p15.length c15, .int .i64 p25, .int .i64 p35, .int .i64 p45] 1 (by simp) (by decide) rfl); simp only [World.size_alloc] at h ⊢; exact h); (have OX := OW.out.alloc (.cells #[.slice a05 p05.length c05, .slice a15 p15.length c15, .int .i64 p25, .int .i64 p35, .int .i64 p45] 25)); (have szx : wr.heap.size ≤ ((wr.alloc (.cells #[] 25)).alloc (.cells #[.slice a05 p05.length c05, .slice a15 p15.length c15, .int .i64 p25, .int .i64 p35, .int .i64 p45] 25)).heap.size := by simp; omega); (refine wpList_append_any _ rfl (.tmp 137) (.tmp 140) _ rfl wr.heap.size 25 iU _ 5 72 Try.underlying26 hiU hU0 hU1 hU2 rfl (by omega) (.slice (some ⟨wr.heap.size, 0, none⟩) 0 0) 0 [] rfl OX _ (some ⟨wr.heap.size + 1, 0, none⟩) 1 1 (Q.ucs [⟨⟨p05, p15, p25, p35, p45⟩, a05, c05, a15, c15⟩]) rfl RDC (Q.ucs_one _) (by decide) (by omega) szx ?_); (intro v5 W9 hown5 hg5 hat5); (simp only [Nat.zero_add, List.nil_append] at hown5); (have g5 := Q.below_turn szx hg5 (fun r e => (OX.lt r e).1)); (obtain ⟨A8, c8, rfl, hrd5, hc5⟩ := own_reads_cap hown5); (have bx2 := (below_box (wr.alloc (.cells #[] 25)) (.cells #[.slice a05 p05.length c05, .slice a15 p15.length c15, .int .i64 p25, .int .i64 p35, .int .i64 p45] 25)).mono SZ7.out); (have BF9 := Lib.hid (hB.out.trans (((below_box wr (.cells #[] 25)).trans (bx2.trans g5)).mono hB.out.size))); (have SZ9 : Hid (wr.heap.size ≤ W9.heap.size) := Lib.hid (Nat.le_trans szx g5.size)); (have OWX : Hid (W9.ownsRow wr.heap.size 25 5 (.slice A8 1 c8) 1 (Q.ucs [⟨⟨p05, p15, p25, p35, p45⟩, a05, c05, a15, c15⟩])) := Lib.hid hown5); (clear RDC OX szx bx2 hown5 hg5 hat5 g5 hrd5 hc5 OW BF7 SZ7 ka0 ka1 ka2 ka3 ka4 ka5 ka6 ka7 ka8 ka9 ka10 kr0 kr1 kr2 kr3 kr4 kr5 kr6 kr7 kr8 kr9 kr10)))
          have BF7 := BF9
          have SZ7 := SZ9
          clear BF9 SZ9
          have LST : Hid (Q.allU (⟨ck5, rt5, true, ⟨⟨p05, p15, p25, p35, p45⟩, a05, c05, a15, c15⟩, be5, en5, it5, ai5, ci5⟩ : Q.Qm) = [⟨⟨p05, p15, p25, p35, p45⟩, a05, c05, a15, c15⟩] ++ it5) := Lib.hid rfl
          have EL8 : Hid (∀ m ∈ ([⟨⟨p05, p15, p25, p35, p45⟩, a05, c05, a15, c15⟩] : List Q.Um), Q.UIn w3 w3.heap.size m) := Lib.hid (fun m hm => by rw [List.mem_singleton.1 hm]; exact I5.out.cur)
          refine wp_normal ?_
          refine wp_region_held_drew (S := fun w' => w'.cell? ⟨w.heap.size, 0, none⟩ = some (.int .i64 ck) ∧ w'.cell? ⟨w3.heap.size, 0, none⟩ = some (.int .i64 ck5) ∧ w'.cell? ⟨w3.heap.size, 10, none⟩ = some (.slice ai5 it5.length ci5)) (by kernel_rfl) (CELL2.out _ BF7.out.drew) (fun hHeld => ?_)
          obtain ⟨wd, hwd⟩ : ∃ wd, W9.drew = wd := ⟨_, rfl⟩
          have bd : Hid (Below w5.heap.size w5 wd) := Lib.hid (by rw [← hwd]; exact BF7.out.drew)
          have sd : Hid (wr.heap.size ≤ wd.heap.size) := Lib.hid (by rw [← hwd]; exact SZ7.out)
          have od : Hid (wd.ownsRow wr.heap.size 25 5 (.slice A8 1 c8) 1 (Q.ucs ([⟨⟨p05, p15, p25, p35, p45⟩, a05, c05, a15, c15⟩] : List Q.Um))) := Lib.hid (by rw [← hwd]; exact OWX.out.drew)
          rw [hwd] at hHeld ⊢
          clear hwd
          refine tk 0 rfl (by kernel_rfl) hHeld (fun _ _ _ h => h) (v := ?_) ?_ ?_
          rotate_left 1
          · (intro w hSw; (try dsimp only at hSw); (try simp only [List.getElem_toArray, List.getElem_cons_succ, List.getElem_cons_zero]); go_simp) <;> (with_reducible rfl)
          try simp only [List.getElem_toArray, List.getElem_cons_succ, List.getElem_cons_zero, Act.put, List.setIfInBounds_toArray, List.set_cons_zero, List.set_cons_succ]
          refine tk 1 rfl (by kernel_rfl) hHeld (fun _ _ _ h => h) (v := ?_) ?_ ?_
          rotate_left 1
          · (intro w hSw; (try dsimp only at hSw); (try simp only [List.getElem_toArray, List.getElem_cons_succ, List.getElem_cons_zero]); go_simp) <;> (with_reducible rfl)
          try simp only [List.getElem_toArray, List.getElem_cons_succ, List.getElem_cons_zero, Act.put, List.setIfInBounds_toArray, List.set_cons_zero, List.set_cons_succ]
          refine tk 2 rfl (by kernel_rfl) hHeld (fun _ _ _ h => h) (v := ?_) ?_ ?_
          rotate_left 1
          · (intro w hSw; (try dsimp only at hSw); (try simp only [List.getElem_toArray, List.getElem_cons_succ, List.getElem_cons_zero]); go_simp) <;> (with_reducible rfl)
          try simp only [List.getElem_toArray, List.getElem_cons_succ, List.getElem_cons_zero, Act.put, List.setIfInBounds_toArray, List.set_cons_zero, List.set_cons_succ]
          refine tk 3 rfl (by kernel_rfl) hHeld (fun _ _ _ h => h) (v := ?_) ?_ ?_
          rotate_left 1
          · (intro w hSw; (try dsimp only at hSw); (try simp only [List.getElem_toArray, List.getElem_cons_succ, List.getElem_cons_zero]); go_simp) <;> (with_reducible rfl)
          try simp only [List.getElem_toArray, List.getElem_cons_succ, List.getElem_cons_zero, Act.put, List.setIfInBounds_toArray, List.set_cons_zero, List.set_cons_succ]
          refine tk 4 rfl (by kernel_rfl) hHeld (fun _ _ _ h => h) (v := ?_) ?_ ?_
          rotate_left 1
          · (intro w hSw; (try dsimp only at hSw); (try simp only [List.getElem_toArray, List.getElem_cons_succ, List.getElem_cons_zero]); go_simp) <;> (with_reducible rfl)
          try simp only [List.getElem_toArray, List.getElem_cons_succ, List.getElem_cons_zero, Act.put, List.setIfInBounds_toArray, List.set_cons_zero, List.set_cons_succ]
          refine tk 5 rfl (by kernel_rfl) hHeld (fun _ _ _ h => h) (v := ?_) ?_ ?_
          rotate_left 1
          · (intro w hSw; (try dsimp only at hSw); (try simp only [List.getElem_toArray, List.getElem_cons_succ, List.getElem_cons_zero]); go_simp) <;> (with_reducible rfl)
          try simp only [List.getElem_toArray, List.getElem_cons_succ, List.getElem_cons_zero, Act.put, List.setIfInBounds_toArray, List.set_cons_zero, List.set_cons_succ]
          refine tk 6 rfl (by kernel_rfl) hHeld (fun _ _ _ h => h) (v := ?_) ?_ ?_
          rotate_left 1
          · (intro w hSw; (try dsimp only at hSw); (try simp only [List.getElem_toArray, List.getElem_cons_succ, List.getElem_cons_zero]); go_simp) <;> (with_reducible rfl)
          try simp only [List.getElem_toArray, List.getElem_cons_succ, List.getElem_cons_zero, Act.put, List.setIfInBounds_toArray, List.set_cons_zero, List.set_cons_succ]
          refine tk 7 rfl (by kernel_rfl) hHeld (fun _ _ _ h => h) (v := ?_) ?_ ?_
          rotate_left 1
          · (intro w hSw; (try dsimp only at hSw); (try simp only [List.getElem_toArray, List.getElem_cons_succ, List.getElem_cons_zero]); go_simp) <;> (with_reducible rfl)
          try simp only [List.getElem_toArray, List.getElem_cons_succ, List.getElem_cons_zero, Act.put, List.setIfInBounds_toArray, List.set_cons_zero, List.set_cons_succ]
          refine tk 8 rfl (by kernel_rfl) hHeld (fun _ _ _ h => h) (v := ?_) ?_ ?_
          rotate_left 1
          · (intro w hSw; (try dsimp only at hSw); (try simp only [List.getElem_toArray, List.getElem_cons_succ, List.getElem_cons_zero]); go_simp) <;> (with_reducible rfl)
          try simp only [List.getElem_toArray, List.getElem_cons_succ, List.getElem_cons_zero, Act.put, List.setIfInBounds_toArray, List.set_cons_zero, List.set_cons_succ]
          refine tk 9 rfl (by kernel_rfl) hHeld (fun _ _ _ h => h) (v := ?_) ?_ ?_
          rotate_left 1
          · (intro w hSw; (try dsimp only at hSw); (try simp only [List.getElem_toArray, List.getElem_cons_succ, List.getElem_cons_zero]); go_simp) <;> (with_reducible rfl)
          try simp only [List.getElem_toArray, List.getElem_cons_succ, List.getElem_cons_zero, Act.put, List.setIfInBounds_toArray, List.set_cons_zero, List.set_cons_succ]
          refine tk 10 rfl (by kernel_rfl) hHeld (fun _ _ _ h => h) (v := ?_) ?_ ?_
          rotate_left 1
          · (intro w hSw; (try dsimp only at hSw); (try simp only [List.getElem_toArray, List.getElem_cons_succ, List.getElem_cons_zero]); go_simp) <;> (with_reducible rfl)
          try simp only [List.getElem_toArray, List.getElem_cons_succ, List.getElem_cons_zero, Act.put, List.setIfInBounds_toArray, List.set_cons_zero, List.set_cons_succ]
          refine tk 11 rfl (by kernel_rfl) hHeld (fun _ _ _ h => h) (v := ?_) ?_ ?_
          rotate_left 1
          · (intro w hSw; (try dsimp only at hSw); (try simp only [List.getElem_toArray, List.getElem_cons_succ, List.getElem_cons_zero]); go_simp) <;> (with_reducible rfl)
          try simp only [List.getElem_toArray, List.getElem_cons_succ, List.getElem_cons_zero, Act.put, List.setIfInBounds_toArray, List.set_cons_zero, List.set_cons_succ]
          refine tk 12 rfl (by kernel_rfl) hHeld (fun _ _ _ h => h) (v := ?_) ?_ ?_
          rotate_left 1
          · (intro w hSw; (try dsimp only at hSw); (try simp only [List.getElem_toArray, List.getElem_cons_succ, List.getElem_cons_zero]); go_simp) <;> (with_reducible rfl)
          try simp only [List.getElem_toArray, List.getElem_cons_succ, List.getElem_cons_zero, Act.put, List.setIfInBounds_toArray, List.set_cons_zero, List.set_cons_succ]
          refine tk 13 rfl (by kernel_rfl) hHeld (fun _ _ _ h => h) (v := ?_) ?_ ?_
          rotate_left 1
          · (intro w hSw; (try dsimp only at hSw); (try simp only [List.getElem_toArray, List.getElem_cons_succ, List.getElem_cons_zero]); go_simp) <;> (with_reducible rfl)
          try simp only [List.getElem_toArray, List.getElem_cons_succ, List.getElem_cons_zero, Act.put, List.setIfInBounds_toArray, List.set_cons_zero, List.set_cons_succ]
          refine tk 14 rfl (by kernel_rfl) hHeld (fun _ _ _ h => h) (v := ?_) ?_ ?_
          rotate_left 1
          · (intro w hSw; (try dsimp only at hSw); (try simp only [List.getElem_toArray, List.getElem_cons_succ, List.getElem_cons_zero]); go_simp) <;> (with_reducible rfl)
          try simp only [List.getElem_toArray, List.getElem_cons_succ, List.getElem_cons_zero, Act.put, List.setIfInBounds_toArray, List.set_cons_zero, List.set_cons_succ]
          refine tk 15 rfl (by kernel_rfl) hHeld (fun _ _ _ h => h) (v := ?_) ?_ ?_
          rotate_left 1
          · (intro w hSw; (try dsimp only at hSw); (try simp only [List.getElem_toArray, List.getElem_cons_succ, List.getElem_cons_zero]); go_simp) <;> (with_reducible rfl)
          try simp only [List.getElem_toArray, List.getElem_cons_succ, List.getElem_cons_zero, Act.put, List.setIfInBounds_toArray, List.set_cons_zero, List.set_cons_succ]
          refine tk 17 rfl (by kernel_rfl) hHeld (fun _ _ _ h => h) (v := ?_) ?_ ?_
          rotate_left 1
          · (intro w hSw; (try dsimp only at hSw); (try simp only [List.getElem_toArray, List.getElem_cons_succ, List.getElem_cons_zero]); go_simp) <;> (with_reducible rfl)
          try simp only [List.getElem_toArray, List.getElem_cons_succ, List.getElem_cons_zero, Act.put, List.setIfInBounds_toArray, List.set_cons_zero, List.set_cons_succ]
          refine tk 18 rfl (by kernel_rfl) hHeld (fun _ _ _ h => h) (v := ?_) ?_ ?_
          rotate_left 1
          · (intro w hSw; (try dsimp only at hSw); (try simp only [List.getElem_toArray, List.getElem_cons_succ, List.getElem_cons_zero]); go_simp) <;> (with_reducible rfl)
          try simp only [List.getElem_toArray, List.getElem_cons_succ, List.getElem_cons_zero, Act.put, List.setIfInBounds_toArray, List.set_cons_zero, List.set_cons_succ]
          refine tk 19 rfl (by kernel_rfl) hHeld (fun _ _ _ h => h) (v := ?_) ?_ ?_
          rotate_left 1
          · (intro w hSw; (try dsimp only at hSw); (try simp only [List.getElem_toArray, List.getElem_cons_succ, List.getElem_cons_zero]); go_simp) <;> (with_reducible rfl)
          try simp only [List.getElem_toArray, List.getElem_cons_succ, List.getElem_cons_zero, Act.put, List.setIfInBounds_toArray, List.set_cons_zero, List.set_cons_succ]
          refine wpAnyH_ready (rs := [16]) (by kernel_rfl) (by simp) (AllReadyH.cons rfl (fun K hK => ?_) AllReadyH.nil)
          refine step_append_want _ (by kernel_rfl) (.tmp 155) (.tmp 157) 26 rfl wr.heap.size 25 iU _ 5 72 Try.underlying26 hiU hU0 hU1 hU2 rfl (by omega) (.slice A8 1 c8) 1 (Q.ucs ([⟨⟨p05, p15, p25, p35, p45⟩, a05, c05, a15, c15⟩] : List Q.Um)) rfl od.out w3.heap.size ai5 it5.length _ _ rfl ((I5.out.items.row).below (OI5.out.b.trans (bd.out.mono OI5.out.b.size)) (Nat.le_refl _)) (Q.ucs_one _) (by simp only [maxLen]; omega) (by omega) sd.out ?_
          intro v6 wa hown6 hg6 _
          have g6 := Q.below_turn sd.out hg6 (fun r e => (od.out.lt r e).1)
          obtain ⟨A10, c10, rfl, hrd6, hc6⟩ := own_reads_cap hown6
          have ba : Hid (Below w5.heap.size w5 wa) := Lib.hid (bd.out.trans (g6.mono (Nat.le_trans hB.out.size (Nat.le_refl _))))
          have hl10 : ([⟨⟨p05, p15, p25, p35, p45⟩, a05, c05, a15, c15⟩] : List Q.Um).length + it5.length = (([⟨⟨p05, p15, p25, p35, p45⟩, a05, c05, a15, c15⟩] : List Q.Um) ++ it5).length := by rw [List.length_append]
          have U10 : Hid (Q.UsIn wa wa.heap.size A10 (([⟨⟨p05, p15, p25, p35, p45⟩, a05, c05, a15, c15⟩] : List Q.Um) ++ it5)) := Lib.hid (Q.us_own (c := c10) (by rw [show Q.ucs (([⟨⟨p05, p15, p25, p35, p45⟩, a05, c05, a15, c15⟩] : List Q.Um) ++ it5) = Q.ucs ([⟨⟨p05, p15, p25, p35, p45⟩, a05, c05, a15, c15⟩] : List Q.Um) ++ Q.ucs it5 from by simp [Q.ucs]]; exact hown6) hl10 (fun m hm => by rcases List.mem_append.1 hm with hm | hm; exact ((EL8.out m hm).below (OI5.out.b.trans (ba.out.mono OI5.out.b.size)) (Nat.le_refl _)).more (Nat.le_trans OI5.out.b.size ba.out.size); exact ((I5.out.items.el m hm).below (OI5.out.b.trans (ba.out.mono OI5.out.b.size)) (Nat.le_refl _)).more (Nat.le_trans OI5.out.b.size ba.out.size)))
          have SU := sameuts_any A10 A9 c10 (c7 - ss5.length) wa.heap.size (([⟨⟨p05, p15, p25, p35, p45⟩, a05, c05, a15, c15⟩] : List Q.Um) ++ it5) l9 wa U10.out ((US9b.out.below ba.out (Nat.le_refl _)).more ba.out.size) (Nat.le_refl _) (by rw [← LST.out]; exact XTL.out) (by rw [← hl10]; simp only [List.length_cons, List.length_nil, maxLen]; omega) (fun m hm => by have h1 : m.u ∈ l9.map (·.u) := (by rw [← XTL.out, LST.out]; exact List.mem_map.2 ⟨m, hm, rfl⟩); obtain ⟨m2, h2, h3⟩ := List.mem_map.1 h1; rw [← h3]; exact (US9s.out m2 h2).ok)
          rw [← hl10] at SU
          simp only [List.length_nil, List.length_cons, Nat.zero_add] at SU
          have SUh := Lib.hid SU
          clear SU U10 hl10 hrd6 hc6 g6 hown6 hg6
          refine hK.out _ _ (CELL2.out _ ba.out) (fun hHeld => ?_)
          clear hK K
          try simp only [List.getElem_toArray, List.getElem_cons_succ, List.getElem_cons_zero, Act.put, List.setIfInBounds_toArray, List.set_cons_zero, List.set_cons_succ]
          refine wpAnyH_ready (rs := [20]) (by kernel_rfl) (by simp) (AllReadyH.cons rfl (fun K hK => ?_) AllReadyH.nil)
          simp only [List.getElem_toArray, List.getElem_cons_succ, List.getElem_cons_zero]
          go_simp
          go_at_call 31
          refine SUh.out.mono ?_
          clear SUh
          rintro e wb ⟨rfl, bz⟩
          try go_wp2_with fail
          have bb : Hid (Below w5.heap.size w5 wb) := Lib.hid (ba.out.trans (bz.mono ba.out.size))
          refine hK.out _ _ (CELL2.out _ bb.out) (fun hHeld => ?_)
          clear hK K bz
          try simp only [List.getElem_toArray, List.getElem_cons_succ, List.getElem_cons_zero, Act.put, List.setIfInBounds_toArray, List.set_cons_zero, List.set_cons_succ]
          refine tk 21 rfl (by kernel_rfl) hHeld (fun _ _ _ h => h) (v := ?_) ?_ ?_
          rotate_left 1
          · (intro w hSw; (try dsimp only at hSw); (try simp only [List.getElem_toArray, List.getElem_cons_succ, List.getElem_cons_zero]); go_simp) <;> (with_reducible rfl)
          try simp only [List.getElem_toArray, List.getElem_cons_succ, List.getElem_cons_zero, Act.put, List.setIfInBounds_toArray, List.set_cons_zero, List.set_cons_succ]
          refine tk 22 rfl (by kernel_rfl) hHeld (fun _ _ _ h => h) (v := ?_) ?_ ?_
          rotate_left 1
          · (intro w hSw; (try dsimp only at hSw); (try simp only [List.getElem_toArray, List.getElem_cons_succ, List.getElem_cons_zero]); go_simp) <;> (with_reducible rfl)
          try simp only [List.getElem_toArray, List.getElem_cons_succ, List.getElem_cons_zero, Act.put, List.setIfInBounds_toArray, List.set_cons_zero, List.set_cons_succ]
          refine wpAnyH_ready (rs := [23]) (by kernel_rfl) (by simp) (AllReadyH.cons rfl (fun K hK => ?_) AllReadyH.nil)
          simp only [List.getElem_toArray, List.getElem_cons_succ, List.getElem_cons_zero]
          go_simp
          go_at_call 13
          refine (AWK.out _).mono ?_
          rintro e wc ⟨rfl, bz⟩
          try go_wp2_with fail
          have bc : Hid (Below w5.heap.size w5 wc) := Lib.hid (bb.out.trans (bz.mono bb.out.size))
          refine hK.out _ _ (CELL2.out _ bc.out) (fun hHeld => ?_)
          clear hK K bz
          try simp only [List.getElem_toArray, List.getElem_cons_succ, List.getElem_cons_zero, Act.put, List.setIfInBounds_toArray, List.set_cons_zero, List.set_cons_succ]
          refine tk 24 rfl (by kernel_rfl) hHeld (fun _ _ _ h => h) (v := ?_) ?_ ?_
          rotate_left 1
          · (intro w hSw; (try dsimp only at hSw); (try simp only [List.getElem_toArray, List.getElem_cons_succ, List.getElem_cons_zero]); go_simp) <;> (with_reducible rfl)
          try simp only [List.getElem_toArray, List.getElem_cons_succ, List.getElem_cons_zero, Act.put, List.setIfInBounds_toArray, List.set_cons_zero, List.set_cons_succ]
          refine tk 25 rfl (by kernel_rfl) hHeld (fun _ _ _ h => h) (v := ?_) ?_ ?_
          rotate_left 1
          · (intro w hSw; (try dsimp only at hSw); (try simp only [List.getElem_toArray, List.getElem_cons_succ, List.getElem_cons_zero]); go_simp) <;> (with_reducible rfl)
          try simp only [List.getElem_toArray, List.getElem_cons_succ, List.getElem_cons_zero, Act.put, List.setIfInBounds_toArray, List.set_cons_zero, List.set_cons_succ]
          refine wpAnyH_done (by kernel_rfl) ?_ _
          have BE := Lib.hid (B5.out.trans (bc.out.mono B5.out.size))
          clear hHeld
          go_wp2_with fail
          go_ret
          exact ⟨rfl, BE.out⟩
  | true =>
    go_enter Try.func7, Try.ntmps7
    go_wp2_with (first
      | (go_at_call 11; (refine RT.out.mono ?_); (clear RT); (rintro e w1 ⟨rfl, b1⟩); (have H1 := HQ0.out.below b1); (obtain ⟨ka0, ka1, ka2, ka3, ka4, ka5, ka6, ka7, ka8, ka9, ka10⟩ := Q.hq_cells H1); (have B1 := Lib.hid (B0.out.trans (b1.mono B0.out.size))); (have HQ1 := Lib.hid H1); (clear b1 H1 k0 k1 k2 k3 k4 k5 k6 k7 k8 k9 k10))
      | (go_at_call 24; (refine (AD1.out _ HQ1.out.i).mono ?_); (rintro e w3 ⟨⟨ck5, rt5, sp5, ⟨⟨p05, p15, p25, p35, p45⟩, a05, c05, a15, c15⟩, be5, en5, it5, ai5, ci5⟩, A5, d5, ss5, rfl, e5, es5, i5, r5, hd5, bb⟩); (simp only at e5 es5); (have hk := HQ1.out.below bb); (have HQ3 := Lib.hid hk); (have I5 := Lib.hid i5); (have R5 := Lib.hid r5); (have E5 := Lib.hid e5); (have ES5 := Lib.hid es5); (have HD5 := Lib.hid hd5); (have B3 := Lib.hid (B1.out.trans (bb.mono B1.out.size))); (have oi := Q.OI.new w3 #[.int .i64 ck5, .int .i64 rt5, .bool sp5, .slice a05 p05.length c05, .slice a15 p15.length c15, .int .i64 p25, .int .i64 p35, .int .i64 p45, .int .i64 be5, .int .i64 en5, .slice ai5 it5.length ci5]); (have ow := World.ownsRow_lit (base := w3.heap.size + 1) (e := 25) (size := 5) (w3.alloc (.cells #[.int .i64 ck5, .int .i64 rt5, .bool sp5, .slice a05 p05.length c05, .slice a15 p15.length c15, .int .i64 p25, .int .i64 p35, .int .i64 p45, .int .i64 be5, .int .i64 en5, .slice ai5 it5.length ci5] 28)) #[] 0 (by simp) (by decide) rfl); (have by4 := below_box (w3.alloc (.cells #[.int .i64 ck5, .int .i64 rt5, .bool sp5, .slice a05 p05.length c05, .slice a15 p15.length c15, .int .i64 p25, .int .i64 p35, .int .i64 p45, .int .i64 be5, .int .i64 en5, .slice ai5 it5.length ci5] 28)) (.cells #[] 25)); (have oi4 := oi.below by4 (by simp)); (obtain ⟨w4, hw4⟩ : ∃ W, (w3.alloc (.cells #[.int .i64 ck5, .int .i64 rt5, .bool sp5, .slice a05 p05.length c05, .slice a15 p15.length c15, .int .i64 p25, .int .i64 p35, .int .i64 p45, .int .i64 be5, .int .i64 en5, .slice ai5 it5.length ci5] 28)).alloc (.cells #[] 25) = W := ⟨_, rfl⟩); (simp only [World.size_alloc] at ow); (rw [hw4] at oi4 ow); (have hq4 := HQ3.out.below oi4.b); (obtain ⟨kb0, kb1, kb2, kb3, kb4, kb5, kb6, kb7, kb8, kb9, kb10⟩ := Q.hq_cells hq4); (have OI4 := Lib.hid oi4); (have OW0 := Lib.hid ow); (have hq3 := HQ3.out.below (below_box w3 (.cells #[.int .i64 ck5, .int .i64 rt5, .bool sp5, .slice a05 p05.length c05, .slice a15 p15.length c15, .int .i64 p25, .int .i64 p35, .int .i64 p45, .int .i64 be5, .int .i64 en5, .slice ai5 it5.length ci5] 28))); (obtain ⟨kz0, kz1, kz2, kz3, kz4, kz5, kz6, kz7, kz8, kz9, kz10⟩ := Q.hq_cells hq3); (simp only [Q.Qm.cells]); (clear bb i5 r5 e5 es5 hd5 hk oi by4 oi4 ow hq4 hq3 AD1 HQ1 ka0 ka1 ka2 ka3 ka4 ka5 ka6 ka7 ka8 ka9 ka10))
      | (at_builtin; (have RDC : Reads (w4.alloc (.cells #[.slice a0 p0.length c0, .slice a1 p1.length c1, .int .i64 p2, .int .i64 p3, .int .i64 p4] 25)) (w4.alloc (.cells #[.slice a0 p0.length c0, .slice a1 p1.length c1, .int .i64 p2, .int .i64 p3, .int .i64 p4] 25)).heap.size 5 (some ⟨w4.heap.size, 0, none⟩) 1 (Q.ucs [⟨⟨p0, p1, p2, p3, p4⟩, a0, c0, a1, c1⟩]) := Reads.of_own (World.ownsRow_lit (base := w4.heap.size) (e := 25) (size := 5) w4 #[.slice a0 p0.length c0, .slice a1 p1.length c1, .int .i64 p2, .int .i64 p3, .int .i64 p4] 1 (by simp) (by decide) rfl)); (have OX := OW0.out.alloc (.cells #[.slice a0 p0.length c0, .slice a1 p1.length c1, .int .i64 p2, .int .i64 p3, .int .i64 p4] 25)); (have OIX := OI4.out.below (below_box w4 (.cells #[.slice a0 p0.length c0, .slice a1 p1.length c1, .int .i64 p2, .int .i64 p3, .int .i64 p4] 25)) OI4.out.sz); (refine wpList_append_any _ rfl (.tmp 40) (.tmp 43) _ rfl (w3.heap.size + 1) 25 iU _ 5 72 Try.underlying26 hiU hU0 hU1 hU2 rfl (by omega) (.slice (some ⟨w3.heap.size + 1, 0, none⟩) 0 0) 0 [] rfl OX _ (some ⟨w4.heap.size, 0, none⟩) 1 1 (Q.ucs [⟨⟨p0, p1, p2, p3, p4⟩, a0, c0, a1, c1⟩]) rfl RDC (Q.ucs_one _) (by decide) (by omega) OIX.sz ?_); (intro v5 w4b hown5 hg5 hat5); (simp only [Nat.zero_add, List.nil_append] at hown5); (have g5 := Q.below_turn OIX.sz hg5 (fun r e => (OX.lt r e).1)); (obtain ⟨A6, c6, rfl, hrd5, hc5⟩ := own_reads_cap hown5); (have OI4b := Lib.hid (OIX.below g5 (Nat.le_refl _))); (have OW1 := Lib.hid hown5); (have hq5 := HQ3.out.below OI4b.out.b); (obtain ⟨kd0, kd1, kd2, kd3, kd4, kd5, kd6, kd7, kd8, kd9, kd10⟩ := Q.hq_cells hq5); (clear RDC OX OIX hown5 hg5 hat5 g5 hrd5 hc5 OW0 OI4 hq5 kb0 kb1 kb2 kb3 kb4 kb5 kb6 kb7 kb8 kb9 kb10 kz0 kz1 kz2 kz3 kz4 kz5 kz6 kz7 kz8 kz9 kz10))
      | (at_builtin; (refine wpList_append_any _ rfl (.tmp 45) (.tmp 47) _ rfl (w3.heap.size + 1) 25 iU _ 5 72 Try.underlying26 hiU hU0 hU1 hU2 rfl (by omega) (.slice A6 1 c6) 1 (Q.ucs [⟨⟨p0, p1, p2, p3, p4⟩, a0, c0, a1, c1⟩]) rfl OW1.out w3.heap.size ai it.length _ _ rfl ((HQ3.out.i.items.row).below OI4b.out.b (Nat.le_refl _)) (Q.ucs_one _) (by simp only [maxLen]; omega) (by omega) OI4b.out.sz ?_); (intro v5 w5 hown5 hg5 hat5); (obtain ⟨al, hal⟩ : ∃ al, ⟨⟨p0, p1, p2, p3, p4⟩, a0, c0, a1, c1⟩ :: it = al := ⟨_, rfl⟩); (have hlal : 1 + it.length = al.length := by rw [← hal, List.length_cons]; omega); (have hown6 : w5.ownsRow (w3.heap.size + 1) 25 5 v5 al.length (Q.ucs al) := by rw [← hlal, ← hal]; exact hown5); (have g5 := Q.below_turn OI4b.out.sz hg5 (fun r e => (OW1.out.lt r e).1)); (obtain ⟨A7, c7, rfl, hrd5, hc5⟩ := own_reads_cap hown6); (have HC7 := Lib.hid hc5); (have OI5 := Lib.hid (OI4b.out.below g5 (Nat.le_refl _))); (have OW5 := Lib.hid hown6); (have hq5 := HQ3.out.below OI5.out.b); (obtain ⟨kc0, kc1, kc2, kc3, kc4, kc5, kc6, kc7, kc8, kc9, kc10⟩ := Q.hq_cells hq5); (have AU : Hid (al.map (·.u) = Q.leftA (⟨ck, rt, true, ⟨⟨p0, p1, p2, p3, p4⟩, a0, c0, a1, c1⟩, be, en, it, ai, ci⟩ : Q.Qm).a) := Lib.hid (by rw [← hal]; simpa [Q.allU] using Q.allU_u (⟨ck, rt, true, ⟨⟨p0, p1, p2, p3, p4⟩, a0, c0, a1, c1⟩, be, en, it, ai, ci⟩ : Q.Qm))); (have AI : Hid (∀ m ∈ al, Q.UIn w3 w3.heap.size m) := Lib.hid (fun m hm => Q.allU_in HQ3.out.i m (by rw [← hal] at hm; simpa [Q.allU] using hm))); (have AS : Hid (∀ m ∈ al, Q.Small m.u ∧ 0 ≤ m.u.af) := Lib.hid (fun m hm => Q.allU_sml SM.out CK.out m (by rw [← hal] at hm; simpa [Q.allU] using hm))); (have hl9 : al.length ≤ 17 := by rw [← hal, List.length_cons]; omega); (clear hown5 hown6 hg5 hat5 g5 hrd5 hc5 OW1 OI4b hq5 hal hlal kd0 kd1 kd2 kd3 kd4 kd5 kd6 kd7 kd8 kd9 kd10)))
    have OF2 := Lib.hid (show _ from OF.out)
    have HRD := Lib.hid (show Reads w5 w5.heap.size 5 A7 al.length (Q.ucs al) from Reads.of_own OW5.out)
    have hln : ss5.length ≤ al.length := by have h := congrArg List.length OF.out.1; rw [← AU.out, List.length_append, ← ES5.out] at h; simp at h; omega
    have HLN := Lib.hid hln
    go_loopw [51, 9, 10] (fun v l kk wr => ∃ k : Nat, k ≤ ss5.length ∧ v = .int .i64 k ∧ l = .int .i64 (Q.endAt ck (ss5.map (·.en)) k) ∧ kk = .int .i64 k ∧ Hid (Below w5.heap.size w5 wr)) (fun v _ _ _ => ss5.length - (intOf v).toNat)
    case atStart => exact ⟨0, Nat.zero_le _, rfl, rfl, rfl, Lib.hid (Below.refl _ _)⟩
    case round =>
      obtain ⟨k, hk, rfl, rfl, rfl, hB⟩ := hrel
      clear kc0 kc1 kc2 kc3 kc4 kc5 kc6 kc7 kc8 kc9 kc10
      by_cases hlt : k < ss5.length
      · have hlt2 : k < al.length := by omega
        have hr8 : Reads wr w3.heap.size 8 A5 ss5.length (Q.scs ss5) := (R5.out.row).below (OI5.out.b.trans (hB.out.mono OI5.out.b.size)) (Nat.le_refl _)
        have hr5 : Reads wr w5.heap.size 5 A7 al.length (Q.ucs al) := HRD.out.below hB.out (Nat.le_refl _)
        obtain ⟨b2, o2, rfl, hb2, hcl2⟩ := Q.reads_sp hr8 (Nat.lt_of_le_of_lt (Nat.zero_le k) hlt)
        obtain ⟨b1, o1, rfl, hb1, hcl1⟩ := Q.reads_at hr5 (Nat.lt_of_le_of_lt (Nat.zero_le k) hlt2)
        obtain ⟨g0, g1, g2, g3, g4, g5, g6, g7⟩ := hcl2 k hlt
        obtain ⟨r0, r1, r2, r3, r4⟩ := hcl1 k hlt2
        have hof := OF.out.2
        rw [← ES5.out] at hof
        have hofk := hof k (by simpa using hlt)
        simp only [List.getElem_map, List.map_map] at hofk
        have hu : ss5[k].m.u = al[k].u := by
          have h := congrArg (fun l => l[k]?) OF.out.1
          rw [← ES5.out, ← AU.out] at h
          simpa [hlt, hlt2, Q.Sm.a, List.getElem?_append] using h
        have rin := (R5.out.el _ (List.getElem_mem hlt))
        have uin := (AI.out _ (List.getElem_mem hlt2))
        obtain ⟨sm, hsm⟩ : ∃ x, ss5[k] = x := ⟨_, rfl⟩
        obtain ⟨um, hum⟩ : ∃ x, al[k] = x := ⟨_, rfl⟩
        rw [hsm] at g0 g1 g2 g3 g4 g5 g6 g7 hofk hu rin
        rw [hum] at r0 r1 r2 r3 r4 hu uin
        have hsmall := AS.out _ (List.getElem_mem hlt2)
        rw [hum] at hsmall
        obtain ⟨⟨⟨m07, m17, m27, m37, m47⟩, f07, f17, f27, f37⟩, sb7, se7, sc7⟩ := sm
        obtain ⟨⟨n0, n1, n2, n3, n4⟩, z0, z1, z2, z3⟩ := um
        simp only at g0 g1 g2 g3 g4 g5 g6 g7 r0 r1 r2 r3 r4 hofk hu
        injection hu with e0 e1 e2 e3 e4
        subst e0 e1 e2 e3 e4
        obtain ⟨hco, hen, hfst, hbe⟩ := hofk
        simp only [Q.Sm.a, Q.Qm.a] at hco hen hfst hbe
        subst hco
        have q0 : decide ((k : Int) < (ss5.length : Int)) = true := decide_eq_true (by omega)
        have q1 : (0 : Int) ≤ (k : Int) := by omega
        have q2 : (k : Int) < (ss5.length : Int) := by omega
        have q3 : (k : Int) < (al.length : Int) := by omega
        have q4 : decide ((al.length : Int) ≤ (k : Int)) = false := decide_eq_false (by omega)
        have q5 : decide (t2 < se7) = false := decide_eq_false (by omega)
        have q6 : decide (al.length ≤ k) = false := decide_eq_false (by omega)
        have q7 : ((al.length : Int) ≤ (k : Int)) = False := eq_false (by omega)
        have hk1 : k + 1 ≤ 17 := by omega
        obtain ⟨la, hla⟩ : ∃ x, Q.endAt ck (ss5.map (·.en)) k = x := ⟨_, rfl⟩
        have HLA := Lib.hid hla
        have HFST := Lib.hid hfst
        have HBE := Lib.hid hbe
        have HEN := Lib.hid hen
        have RIN := Lib.hid rin
        have UIN := Lib.hid uin
        have HSMA := Lib.hid hsmall
        have HUM := Lib.hid hum
        have HSM := Lib.hid hsm
        rw [hla]
        clear hr8 hr5 hcl1 hcl2 hof hbe hfst hla rin uin hsmall hum hsm hen HLN
        go_wp2_with fail
        have bx := below_box wr (.cells #[.slice f07 m07.length f17, .slice f27 m17.length f37, .int .i64 m27, .int .i64 m37, .int .i64 m47, .int .i64 sb7, .int .i64 se7, .bool true] 38)
        have hv6 := heap_alloc_new wr (.cells #[.slice f07 m07.length f17, .slice f27 m17.length f37, .int .i64 m27, .int .i64 m37, .int .i64 m47, .int .i64 sb7, .int .i64 se7, .bool true] 38)
        obtain ⟨w6, hw6⟩ : ∃ W, wr.alloc (.cells #[.slice f07 m07.length f17, .slice f27 m17.length f37, .int .i64 m27, .int .i64 m37, .int .i64 m47, .int .i64 sb7, .int .i64 se7, .bool true] 38) = W := ⟨_, rfl⟩
        rw [hw6] at bx hv6 ⊢
        have b6 := hB.out.trans (bx.mono hB.out.size)
        have B6 := Lib.hid b6
        have sT := (Array.getElem?_eq_some_iff.1 hv6).1
        have hq6 := Q.hq_cells (HQ3.out.below (OI5.out.b.trans (b6.mono OI5.out.b.size)))
        have tc0 := cell_of_block_ (i := 0) hv6
        have tc1 := cell_of_block_ (i := 1) hv6
        have tc2 := cell_of_block_ (i := 2) hv6
        have tc3 := cell_of_block_ (i := 3) hv6
        have tc4 := cell_of_block_ (i := 4) hv6
        have tc5 := cell_of_block_ (i := 5) hv6
        have tc6 := cell_of_block_ (i := 6) hv6
        have tc7 := cell_of_block_ (i := 7) hv6
        simp at tc0 tc1 tc2 tc3 tc4 tc5 tc6 tc7
        have sb := Nat.lt_of_lt_of_le hb1 b6.size
        have hb1' := Nat.lt_of_lt_of_le hb1 hB.out.size
        have CELL : Hid (∀ W : World, Below w6.heap.size w6 W → (W.cell? ⟨wr.heap.size, 0, none⟩ = some (.slice f07 m07.length f17) ∧ W.cell? ⟨wr.heap.size, 1, none⟩ = some (.slice f27 m17.length f37) ∧ W.cell? ⟨wr.heap.size, 2, none⟩ = some (.int .i64 m27) ∧ W.cell? ⟨wr.heap.size, 3, none⟩ = some (.int .i64 m37) ∧ W.cell? ⟨wr.heap.size, 4, none⟩ = some (.int .i64 m47) ∧ W.cell? ⟨wr.heap.size, 5, none⟩ = some (.int .i64 sb7) ∧ W.cell? ⟨wr.heap.size, 6, none⟩ = some (.int .i64 se7) ∧ W.cell? ⟨wr.heap.size, 7, none⟩ = some (.bool true) ∧ W.cell? ⟨b1, o1 + k * 5, none⟩ = some (.slice z0 m07.length z1) ∧ W.cell? ⟨b1, o1 + k * 5 + 1, none⟩ = some (.slice z2 m17.length z3) ∧ W.cell? ⟨b1, o1 + k * 5 + 2, none⟩ = some (.int .i64 m27) ∧ W.cell? ⟨b1, o1 + k * 5 + 3, none⟩ = some (.int .i64 m37) ∧ W.cell? ⟨b1, o1 + k * 5 + 4, none⟩ = some (.int .i64 m47) ∧ W.cell? ⟨w.heap.size, 0, none⟩ = some (.int .i64 ck) ∧ W.cell? ⟨w.heap.size, 1, none⟩ = some (.int .i64 rt))) := Lib.hid (fun W hb => ⟨(hb.cell sT).trans tc0, (hb.cell sT).trans tc1, (hb.cell sT).trans tc2, (hb.cell sT).trans tc3, (hb.cell sT).trans tc4, (hb.cell sT).trans tc5, (hb.cell sT).trans tc6, (hb.cell sT).trans tc7, (hb.cell sb).trans ((bx.cell hb1').trans r0), (hb.cell sb).trans ((bx.cell hb1').trans r1), (hb.cell sb).trans ((bx.cell hb1').trans r2), (hb.cell sb).trans ((bx.cell hb1').trans r3), (hb.cell sb).trans ((bx.cell hb1').trans r4), (hb.cell (Nat.lt_of_lt_of_le (Array.getElem?_eq_some_iff.1 HQ3.out.v).1 (Nat.le_trans OI5.out.b.size b6.size))).trans hq6.1, (hb.cell (Nat.lt_of_lt_of_le (Array.getElem?_eq_some_iff.1 HQ3.out.v).1 (Nat.le_trans OI5.out.b.size b6.size))).trans hq6.2.1⟩)
        have SU := Lib.hid (fun (W : World) (hb : Below w6.heap.size w6 W) => sameut_any ⟨⟨m07, m17, m27, m37, m47⟩, f07, f17, f27, f37⟩ ⟨⟨m07, m17, m27, m37, m47⟩, z0, z1, z2, z3⟩ w3.heap.size W (RIN.out.below (OI5.out.b.trans ((b6.trans (hb.mono b6.size)).mono OI5.out.b.size)) (Nat.le_refl _)) (UIN.out.below (OI5.out.b.trans ((b6.trans (hb.mono b6.size)).mono OI5.out.b.size)) (Nat.le_refl _)) (Nat.le_trans OI5.out.b.size (Nat.le_trans b6.size hb.size)) rfl HSMA.out.1.ok.1 HSMA.out.1.ok.2.1 HSMA.out.1.ok.2.2)
        have WU := Lib.hid (fun (W : World) (hb : Below w6.heap.size w6 W) => words_any z0 z1 w3.heap.size m07 rt W ((UIN.out.below (OI5.out.b.trans ((b6.trans (hb.mono b6.size)).mono OI5.out.b.size)) (Nat.le_refl _)).w) (Nat.le_trans OI5.out.b.size (Nat.le_trans b6.size hb.size)) (Nat.le_trans HSMA.out.1.1 (by decide)) (fun s hs => Nat.le_trans (HSMA.out.1.2.2.1 s hs) (by decide)))
        simp only [Q.Um.cells] at SU
        clear bx hv6 sT hq6 sb hb1' b6 hw6 tc0 tc1 tc2 tc3 tc4 tc5 tc6 tc7 r0 r1 r2 r3 r4 g0 g1 g2 g3 g4 g5 g6 g7
        refine wp_normal ?_
        refine wp_region_held_drew (S := fun w' => w'.cell? ⟨wr.heap.size, 0, none⟩ = some (.slice f07 m07.length f17) ∧ w'.cell? ⟨wr.heap.size, 1, none⟩ = some (.slice f27 m17.length f37) ∧ w'.cell? ⟨wr.heap.size, 2, none⟩ = some (.int .i64 m27) ∧ w'.cell? ⟨wr.heap.size, 3, none⟩ = some (.int .i64 m37) ∧ w'.cell? ⟨wr.heap.size, 4, none⟩ = some (.int .i64 m47) ∧ w'.cell? ⟨wr.heap.size, 5, none⟩ = some (.int .i64 sb7) ∧ w'.cell? ⟨wr.heap.size, 6, none⟩ = some (.int .i64 se7) ∧ w'.cell? ⟨wr.heap.size, 7, none⟩ = some (.bool true) ∧ w'.cell? ⟨b1, o1 + k * 5, none⟩ = some (.slice z0 m07.length z1) ∧ w'.cell? ⟨b1, o1 + k * 5 + 1, none⟩ = some (.slice z2 m17.length z3) ∧ w'.cell? ⟨b1, o1 + k * 5 + 2, none⟩ = some (.int .i64 m27) ∧ w'.cell? ⟨b1, o1 + k * 5 + 3, none⟩ = some (.int .i64 m37) ∧ w'.cell? ⟨b1, o1 + k * 5 + 4, none⟩ = some (.int .i64 m47) ∧ w'.cell? ⟨w.heap.size, 0, none⟩ = some (.int .i64 ck) ∧ w'.cell? ⟨w.heap.size, 1, none⟩ = some (.int .i64 rt)) (by kernel_rfl) (CELL.out _ (Below.refl _ w6).drew) (fun hHeld => ?_)
        obtain ⟨wd, hwd⟩ : ∃ wd, w6.drew = wd := ⟨_, rfl⟩
        have bd : Below w6.heap.size w6 wd := by rw [← hwd]; exact (Below.refl _ w6).drew
        rw [hwd] at hHeld ⊢
        clear hwd
        refine tk 0 rfl (by kernel_rfl) hHeld (fun _ _ _ h => h) (v := ?_) ?_ ?_
        rotate_left 1
        · (intro w hSw; (try dsimp only at hSw); (try simp only [List.getElem_toArray, List.getElem_cons_succ, List.getElem_cons_zero]); go_simp) <;> (with_reducible rfl)
        try simp only [List.getElem_toArray, List.getElem_cons_succ, List.getElem_cons_zero, Act.put, List.setIfInBounds_toArray, List.set_cons_zero, List.set_cons_succ]
        refine tk 1 rfl (by kernel_rfl) hHeld (fun _ _ _ h => h) (v := ?_) ?_ ?_
        rotate_left 1
        · (intro w hSw; (try dsimp only at hSw); (try simp only [List.getElem_toArray, List.getElem_cons_succ, List.getElem_cons_zero]); go_simp) <;> (with_reducible rfl)
        try simp only [List.getElem_toArray, List.getElem_cons_succ, List.getElem_cons_zero, Act.put, List.setIfInBounds_toArray, List.set_cons_zero, List.set_cons_succ]
        refine tk 2 rfl (by kernel_rfl) hHeld (fun _ _ _ h => h) (v := ?_) ?_ ?_
        rotate_left 1
        · (intro w hSw; (try dsimp only at hSw); (try simp only [List.getElem_toArray, List.getElem_cons_succ, List.getElem_cons_zero]); go_simp) <;> (with_reducible rfl)
        try simp only [List.getElem_toArray, List.getElem_cons_succ, List.getElem_cons_zero, Act.put, List.setIfInBounds_toArray, List.set_cons_zero, List.set_cons_succ]
        refine tk 3 rfl (by kernel_rfl) hHeld (fun _ _ _ h => h) (v := ?_) ?_ ?_
        rotate_left 1
        · (intro w hSw; (try dsimp only at hSw); (try simp only [List.getElem_toArray, List.getElem_cons_succ, List.getElem_cons_zero]); go_simp) <;> (with_reducible rfl)
        try simp only [List.getElem_toArray, List.getElem_cons_succ, List.getElem_cons_zero, Act.put, List.setIfInBounds_toArray, List.set_cons_zero, List.set_cons_succ]
        refine tk 4 rfl (by kernel_rfl) hHeld (fun _ _ _ h => h) (v := ?_) ?_ ?_
        rotate_left 1
        · (intro w hSw; (try dsimp only at hSw); (try simp only [List.getElem_toArray, List.getElem_cons_succ, List.getElem_cons_zero]); go_simp) <;> (with_reducible rfl)
        try simp only [List.getElem_toArray, List.getElem_cons_succ, List.getElem_cons_zero, Act.put, List.setIfInBounds_toArray, List.set_cons_zero, List.set_cons_succ]
        refine tk 5 rfl (by kernel_rfl) hHeld (fun _ _ _ h => h) (v := ?_) ?_ ?_
        rotate_left 1
        · (intro w hSw; (try dsimp only at hSw); (try simp only [List.getElem_toArray, List.getElem_cons_succ, List.getElem_cons_zero]); go_simp) <;> (with_reducible rfl)
        try simp only [List.getElem_toArray, List.getElem_cons_succ, List.getElem_cons_zero, Act.put, List.setIfInBounds_toArray, List.set_cons_zero, List.set_cons_succ]
        refine tk 6 rfl (by kernel_rfl) hHeld (fun _ _ _ h => h) (v := ?_) ?_ ?_
        rotate_left 1
        · (intro w hSw; (try dsimp only at hSw); (try simp only [List.getElem_toArray, List.getElem_cons_succ, List.getElem_cons_zero]); go_simp) <;> (with_reducible rfl)
        try simp only [List.getElem_toArray, List.getElem_cons_succ, List.getElem_cons_zero, Act.put, List.setIfInBounds_toArray, List.set_cons_zero, List.set_cons_succ]
        refine tk 7 rfl (by kernel_rfl) hHeld (fun _ _ _ h => h) (v := ?_) ?_ ?_
        rotate_left 1
        · (intro w hSw; (try dsimp only at hSw); (try simp only [List.getElem_toArray, List.getElem_cons_succ, List.getElem_cons_zero]); go_simp) <;> (with_reducible rfl)
        try simp only [List.getElem_toArray, List.getElem_cons_succ, List.getElem_cons_zero, Act.put, List.setIfInBounds_toArray, List.set_cons_zero, List.set_cons_succ]
        refine tk 8 rfl (by kernel_rfl) hHeld (fun _ _ _ h => h) (v := ?_) ?_ ?_
        rotate_left 1
        · (intro w hSw; (try dsimp only at hSw); (try simp only [List.getElem_toArray, List.getElem_cons_succ, List.getElem_cons_zero]); go_simp) <;> (with_reducible rfl)
        try simp only [List.getElem_toArray, List.getElem_cons_succ, List.getElem_cons_zero, Act.put, List.setIfInBounds_toArray, List.set_cons_zero, List.set_cons_succ]
        refine tk 9 rfl (by kernel_rfl) hHeld (fun _ _ _ h => h) (v := ?_) ?_ ?_
        rotate_left 1
        · (intro w hSw; (try dsimp only at hSw); (try simp only [List.getElem_toArray, List.getElem_cons_succ, List.getElem_cons_zero]); go_simp) <;> (with_reducible rfl)
        try simp only [List.getElem_toArray, List.getElem_cons_succ, List.getElem_cons_zero, Act.put, List.setIfInBounds_toArray, List.set_cons_zero, List.set_cons_succ]
        refine tk 10 rfl (by kernel_rfl) hHeld (fun _ _ _ h => h) (v := ?_) ?_ ?_
        rotate_left 1
        · (intro w hSw; (try dsimp only at hSw); (try simp only [List.getElem_toArray, List.getElem_cons_succ, List.getElem_cons_zero]); go_simp) <;> (with_reducible rfl)
        try simp only [List.getElem_toArray, List.getElem_cons_succ, List.getElem_cons_zero, Act.put, List.setIfInBounds_toArray, List.set_cons_zero, List.set_cons_succ]
        refine tk 11 rfl (by kernel_rfl) hHeld (fun _ _ _ h => h) (v := ?_) ?_ ?_
        rotate_left 1
        · (intro w hSw; (try dsimp only at hSw); (try simp only [List.getElem_toArray, List.getElem_cons_succ, List.getElem_cons_zero]); go_simp) <;> (with_reducible rfl)
        try simp only [List.getElem_toArray, List.getElem_cons_succ, List.getElem_cons_zero, Act.put, List.setIfInBounds_toArray, List.set_cons_zero, List.set_cons_succ]
        refine tk 12 rfl (by kernel_rfl) hHeld (fun _ _ _ h => h) (v := ?_) ?_ ?_
        rotate_left 1
        · (intro w hSw; (try dsimp only at hSw); (try simp only [List.getElem_toArray, List.getElem_cons_succ, List.getElem_cons_zero]); go_simp) <;> (with_reducible rfl)
        try simp only [List.getElem_toArray, List.getElem_cons_succ, List.getElem_cons_zero, Act.put, List.setIfInBounds_toArray, List.set_cons_zero, List.set_cons_succ]
        refine tk 13 rfl (by kernel_rfl) hHeld (fun _ _ _ h => h) (v := ?_) ?_ ?_
        rotate_left 1
        · (intro w hSw; (try dsimp only at hSw); (try simp only [List.getElem_toArray, List.getElem_cons_succ, List.getElem_cons_zero]); go_simp) <;> (with_reducible rfl)
        try simp only [List.getElem_toArray, List.getElem_cons_succ, List.getElem_cons_zero, Act.put, List.setIfInBounds_toArray, List.set_cons_zero, List.set_cons_succ]
        refine tk 14 rfl (by kernel_rfl) hHeld (fun _ _ _ h => h) (v := ?_) ?_ ?_
        rotate_left 1
        · (intro w hSw; (try dsimp only at hSw); (try simp only [List.getElem_toArray, List.getElem_cons_succ, List.getElem_cons_zero]); go_simp) <;> (with_reducible rfl)
        try simp only [List.getElem_toArray, List.getElem_cons_succ, List.getElem_cons_zero, Act.put, List.setIfInBounds_toArray, List.set_cons_zero, List.set_cons_succ]
        refine tk 15 rfl (by kernel_rfl) hHeld (fun _ _ _ h => h) (v := ?_) ?_ ?_
        rotate_left 1
        · (intro w hSw; (try dsimp only at hSw); (try simp only [List.getElem_toArray, List.getElem_cons_succ, List.getElem_cons_zero]); go_simp) <;> (with_reducible rfl)
        try simp only [List.getElem_toArray, List.getElem_cons_succ, List.getElem_cons_zero, Act.put, List.setIfInBounds_toArray, List.set_cons_zero, List.set_cons_succ]
        refine wpAnyH_ready (rs := [16]) (by kernel_rfl) (by simp) (AllReadyH.cons rfl (fun K hK => ?_) AllReadyH.nil)
        simp only [List.getElem_toArray, List.getElem_cons_succ, List.getElem_cons_zero]
        go_simp
        go_at_call 29
        refine (SU.out wd bd).mono ?_
        rintro e wa ⟨rfl, bz⟩
        try go_wp2_with fail
        have ba := bd.trans (bz.mono bd.size)
        refine hK.out _ _ (CELL.out _ ba) (fun hHeld => ?_)
        clear hK K bz
        try simp only [List.getElem_toArray, List.getElem_cons_succ, List.getElem_cons_zero, Act.put, List.setIfInBounds_toArray, List.set_cons_zero, List.set_cons_succ]
        refine tk 17 rfl (by kernel_rfl) hHeld (fun _ _ _ h => h) (v := ?_) ?_ ?_
        rotate_left 1
        · (intro w hSw; (try dsimp only at hSw); (try simp only [List.getElem_toArray, List.getElem_cons_succ, List.getElem_cons_zero]); go_simp) <;> (with_reducible rfl)
        try simp only [List.getElem_toArray, List.getElem_cons_succ, List.getElem_cons_zero, Act.put, List.setIfInBounds_toArray, List.set_cons_zero, List.set_cons_succ]
        refine tk 18 rfl (by kernel_rfl) hHeld (fun _ _ _ h => h) (v := ?_) ?_ ?_
        rotate_left 1
        · (intro w hSw; (try dsimp only at hSw); (try simp only [List.getElem_toArray, List.getElem_cons_succ, List.getElem_cons_zero]); go_simp) <;> (with_reducible rfl)
        try simp only [List.getElem_toArray, List.getElem_cons_succ, List.getElem_cons_zero, Act.put, List.setIfInBounds_toArray, List.set_cons_zero, List.set_cons_succ]
        refine tk 19 rfl (by kernel_rfl) hHeld (fun _ _ _ h => h) (v := ?_) ?_ ?_
        rotate_left 1
        · (intro w hSw; (try dsimp only at hSw); (try simp only [List.getElem_toArray, List.getElem_cons_succ, List.getElem_cons_zero]); go_simp) <;> (with_reducible rfl)
        try simp only [List.getElem_toArray, List.getElem_cons_succ, List.getElem_cons_zero, Act.put, List.setIfInBounds_toArray, List.set_cons_zero, List.set_cons_succ]
        refine tk 20 rfl (by kernel_rfl) hHeld (fun _ _ _ h => h) (v := ?_) ?_ ?_
        rotate_left 1
        · (intro w hSw; (try dsimp only at hSw); (try simp only [List.getElem_toArray, List.getElem_cons_succ, List.getElem_cons_zero]); go_simp) <;> (with_reducible rfl)
        try simp only [List.getElem_toArray, List.getElem_cons_succ, List.getElem_cons_zero, Act.put, List.setIfInBounds_toArray, List.set_cons_zero, List.set_cons_succ]
        refine tk 21 rfl (by kernel_rfl) hHeld (fun _ _ _ h => h) (v := ?_) ?_ ?_
        rotate_left 1
        · (intro w hSw; (try dsimp only at hSw); (try simp only [List.getElem_toArray, List.getElem_cons_succ, List.getElem_cons_zero]); go_simp) <;> (with_reducible rfl)
        try simp only [List.getElem_toArray, List.getElem_cons_succ, List.getElem_cons_zero, Act.put, List.setIfInBounds_toArray, List.set_cons_zero, List.set_cons_succ]
        refine tk 22 rfl (by kernel_rfl) hHeld (fun _ _ _ h => h) (v := ?_) ?_ ?_
        rotate_left 1
        · (intro w hSw; (try dsimp only at hSw); (try simp only [List.getElem_toArray, List.getElem_cons_succ, List.getElem_cons_zero]); go_simp) <;> (with_reducible rfl)
        try simp only [List.getElem_toArray, List.getElem_cons_succ, List.getElem_cons_zero, Act.put, List.setIfInBounds_toArray, List.set_cons_zero, List.set_cons_succ]
        refine tk 23 rfl (by kernel_rfl) hHeld (fun _ _ _ h => h) (v := ?_) ?_ ?_
        rotate_left 1
        · (intro w hSw; (try dsimp only at hSw); (try simp only [List.getElem_toArray, List.getElem_cons_succ, List.getElem_cons_zero]); go_simp) <;> (with_reducible rfl)
        try simp only [List.getElem_toArray, List.getElem_cons_succ, List.getElem_cons_zero, Act.put, List.setIfInBounds_toArray, List.set_cons_zero, List.set_cons_succ]
        refine tk 24 rfl (by kernel_rfl) hHeld (fun _ _ _ h => h) (v := ?_) ?_ ?_
        rotate_left 1
        · (intro w hSw; (try dsimp only at hSw); (try simp only [List.getElem_toArray, List.getElem_cons_succ, List.getElem_cons_zero]); go_simp) <;> (with_reducible rfl)
        try simp only [List.getElem_toArray, List.getElem_cons_succ, List.getElem_cons_zero, Act.put, List.setIfInBounds_toArray, List.set_cons_zero, List.set_cons_succ]
        refine tk 25 rfl (by kernel_rfl) hHeld (fun _ _ _ h => h) (v := ?_) ?_ ?_
        rotate_left 1
        · (intro w hSw; (try dsimp only at hSw); (try simp only [List.getElem_toArray, List.getElem_cons_succ, List.getElem_cons_zero]); go_simp) <;> (with_reducible rfl)
        try simp only [List.getElem_toArray, List.getElem_cons_succ, List.getElem_cons_zero, Act.put, List.setIfInBounds_toArray, List.set_cons_zero, List.set_cons_succ]
        refine tk 26 rfl (by kernel_rfl) hHeld (fun _ _ _ h => h) (v := ?_) ?_ ?_
        rotate_left 1
        · (intro w hSw; (try dsimp only at hSw); (try simp only [List.getElem_toArray, List.getElem_cons_succ, List.getElem_cons_zero]); go_simp) <;> (with_reducible rfl)
        try simp only [List.getElem_toArray, List.getElem_cons_succ, List.getElem_cons_zero, Act.put, List.setIfInBounds_toArray, List.set_cons_zero, List.set_cons_succ]
        refine tk 27 rfl (by kernel_rfl) hHeld (fun _ _ _ h => h) (v := ?_) ?_ ?_
        rotate_left 1
        · (intro w hSw; (try dsimp only at hSw); (try simp only [List.getElem_toArray, List.getElem_cons_succ, List.getElem_cons_zero]); go_simp) <;> (with_reducible rfl)
        try simp only [List.getElem_toArray, List.getElem_cons_succ, List.getElem_cons_zero, Act.put, List.setIfInBounds_toArray, List.set_cons_zero, List.set_cons_succ]
        refine tk 28 rfl (by kernel_rfl) hHeld (fun _ _ _ h => h) (v := ?_) ?_ ?_
        rotate_left 1
        · (intro w hSw; (try dsimp only at hSw); (try simp only [List.getElem_toArray, List.getElem_cons_succ, List.getElem_cons_zero]); go_simp) <;> (with_reducible rfl)
        try simp only [List.getElem_toArray, List.getElem_cons_succ, List.getElem_cons_zero, Act.put, List.setIfInBounds_toArray, List.set_cons_zero, List.set_cons_succ]
        refine wpAnyH_done (by kernel_rfl) ?_ _
        have BA := Lib.hid ba
        clear ba bd hHeld
        obtain ⟨tt0, tt1, tt2, tt3, tt4, tt5, tt6, tt7, rr0, rr1, rr2, rr3, rr4, _⟩ := CELL.out _ BA.out
        obtain ⟨nn0, nn1, nn2, nn3, nn4, nn5, nn6, nn7, nn8, nn9, nn10⟩ := Q.hq_cells (HQ3.out.below (OI5.out.b.trans ((B6.out.trans (BA.out.mono B6.out.size)).mono OI5.out.b.size)))
        by_cases hk0 : k = 0
        · have HK0 := Lib.hid hk0
          have gk : decide ((k : Int) = 0) = true := decide_eq_true (by omega)
          have gk2 : ((k : Int) == 0) = true := by simpa using hk0
          have gk3 : decide (k = 0) = true := decide_eq_true hk0
          have gk4 : (k == 0) = true := by simpa using hk0
          obtain ⟨hb_, he_⟩ := HFST.out (by first | exact ⟨trivial, hk0⟩ | exact ⟨rfl, hk0⟩ | simpa using hk0)
          have gb : (sb7 != be) = false := by rw [hb_]; simp
          have ge : (se7 != en) = false := by rw [he_]; simp
          clear hb_ he_ hk0
          go_wp2_with fail
          go_roundw
          case rel => exact ⟨k + 1, by omega, by go_num, by rw [show Q.endAt ck (ss5.map (·.en)) (k + 1) = se7 from by simp [Q.endAt, hlt, HSM.out]], by go_num, Lib.hid (B6.out.trans (BA.out.mono B6.out.size))⟩
          case measure => simp [intOf] <;> omega
        · have gk : decide ((k : Int) = 0) = false := decide_eq_false (by omega)
          have gk2 : ((k : Int) == 0) = false := by simpa using hk0
          have gk3 : decide (k = 0) = false := decide_eq_false hk0
          have gk4 : (k == 0) = false := by simpa using hk0
          have HK0 := Lib.hid hk0
          clear hk0
          have hb2_ := HBE.out (fun h => HK0.out h.2)
          have hb3_ : Q.endAt ck (List.map ((fun x => x.en) ∘ Q.Sm.a) ss5) k = la := HLA.out
          rw [hb3_] at hb2_
          have gmx : max la m37 = sb7 := hb2_.1.symm
          have dn := Q.dur_nonneg rt (⟨m07, m17, m27, m37, m47⟩ : Q.Ut)
          have h37 : 0 ≤ m37 := HSMA.out.2
          have gse : IntKind.i64.wrap (sb7 + D.words (m07.map (·.size)) rt) = se7 := by
            have h1 := hb2_.2
            have h2 := HEN.out
            have h3 := HT2.out
            have h4 : sb7 + D.words (m07.map (·.size)) rt = se7 := h1.symm
            have h5 : 0 ≤ D.words (m07.map (·.size)) rt := dn
            have h6 := of_decide_eq_false gM
            have h7 : m37 ≤ sb7 := by rw [← gmx]; exact Int.le_max_right _ _
            rw [h4]
            have h8 : 0 ≤ se7 := by omega
            have h9 := XT.out
            simp [IntKind.wrap, IntKind.bits, IntKind.signed]; omega
          clear hb2_ hb3_ dn h37
          go_wp2_with fail
          refine wp_normal ?_
          refine wp_region_held_drew (S := fun w' => w'.cell? ⟨wr.heap.size, 0, none⟩ = some (.slice f07 m07.length f17) ∧ w'.cell? ⟨wr.heap.size, 1, none⟩ = some (.slice f27 m17.length f37) ∧ w'.cell? ⟨wr.heap.size, 2, none⟩ = some (.int .i64 m27) ∧ w'.cell? ⟨wr.heap.size, 3, none⟩ = some (.int .i64 m37) ∧ w'.cell? ⟨wr.heap.size, 4, none⟩ = some (.int .i64 m47) ∧ w'.cell? ⟨wr.heap.size, 5, none⟩ = some (.int .i64 sb7) ∧ w'.cell? ⟨wr.heap.size, 6, none⟩ = some (.int .i64 se7) ∧ w'.cell? ⟨wr.heap.size, 7, none⟩ = some (.bool true) ∧ w'.cell? ⟨b1, o1 + k * 5, none⟩ = some (.slice z0 m07.length z1) ∧ w'.cell? ⟨b1, o1 + k * 5 + 1, none⟩ = some (.slice z2 m17.length z3) ∧ w'.cell? ⟨b1, o1 + k * 5 + 2, none⟩ = some (.int .i64 m27) ∧ w'.cell? ⟨b1, o1 + k * 5 + 3, none⟩ = some (.int .i64 m37) ∧ w'.cell? ⟨b1, o1 + k * 5 + 4, none⟩ = some (.int .i64 m47) ∧ w'.cell? ⟨w.heap.size, 0, none⟩ = some (.int .i64 ck) ∧ w'.cell? ⟨w.heap.size, 1, none⟩ = some (.int .i64 rt)) (by kernel_rfl) (CELL.out _ BA.out.drew) (fun hHeld => ?_)
          obtain ⟨we, hwe⟩ : ∃ we, wa.drew = we := ⟨_, rfl⟩
          have bd : Below w6.heap.size w6 we := by rw [← hwe]; exact BA.out.drew
          rw [hwe] at hHeld ⊢
          clear hwe
          refine tk 0 rfl (by kernel_rfl) hHeld (fun _ _ _ h => h) (v := ?_) ?_ ?_
          rotate_left 1
          · (intro w hSw; (try dsimp only at hSw); (try simp only [List.getElem_toArray, List.getElem_cons_succ, List.getElem_cons_zero]); go_simp) <;> (with_reducible rfl)
          try simp only [List.getElem_toArray, List.getElem_cons_succ, List.getElem_cons_zero, Act.put, List.setIfInBounds_toArray, List.set_cons_zero, List.set_cons_succ]
          refine tk 1 rfl (by kernel_rfl) hHeld (fun _ _ _ h => h) (v := ?_) ?_ ?_
          rotate_left 1
          · (intro w hSw; (try dsimp only at hSw); (try simp only [List.getElem_toArray, List.getElem_cons_succ, List.getElem_cons_zero]); go_simp) <;> (with_reducible rfl)
          try simp only [List.getElem_toArray, List.getElem_cons_succ, List.getElem_cons_zero, Act.put, List.setIfInBounds_toArray, List.set_cons_zero, List.set_cons_succ]
          refine tk 2 rfl (by kernel_rfl) hHeld (fun _ _ _ h => h) (v := ?_) ?_ ?_
          rotate_left 1
          · (intro w hSw; (try dsimp only at hSw); (try simp only [List.getElem_toArray, List.getElem_cons_succ, List.getElem_cons_zero]); go_simp) <;> (with_reducible rfl)
          try simp only [List.getElem_toArray, List.getElem_cons_succ, List.getElem_cons_zero, Act.put, List.setIfInBounds_toArray, List.set_cons_zero, List.set_cons_succ]
          refine tk 3 rfl (by kernel_rfl) hHeld (fun _ _ _ h => h) (v := ?_) ?_ ?_
          rotate_left 1
          · (intro w hSw; (try dsimp only at hSw); (try simp only [List.getElem_toArray, List.getElem_cons_succ, List.getElem_cons_zero]); go_simp) <;> (with_reducible rfl)
          try simp only [List.getElem_toArray, List.getElem_cons_succ, List.getElem_cons_zero, Act.put, List.setIfInBounds_toArray, List.set_cons_zero, List.set_cons_succ]
          refine tk 4 rfl (by kernel_rfl) hHeld (fun _ _ _ h => h) (v := ?_) ?_ ?_
          rotate_left 1
          · (intro w hSw; (try dsimp only at hSw); (try simp only [List.getElem_toArray, List.getElem_cons_succ, List.getElem_cons_zero]); go_simp) <;> (with_reducible rfl)
          try simp only [List.getElem_toArray, List.getElem_cons_succ, List.getElem_cons_zero, Act.put, List.setIfInBounds_toArray, List.set_cons_zero, List.set_cons_succ]
          refine tk 5 rfl (by kernel_rfl) hHeld (fun _ _ _ h => h) (v := ?_) ?_ ?_
          rotate_left 1
          · (intro w hSw; (try dsimp only at hSw); (try simp only [List.getElem_toArray, List.getElem_cons_succ, List.getElem_cons_zero]); go_simp) <;> (with_reducible rfl)
          try simp only [List.getElem_toArray, List.getElem_cons_succ, List.getElem_cons_zero, Act.put, List.setIfInBounds_toArray, List.set_cons_zero, List.set_cons_succ]
          refine tk 6 rfl (by kernel_rfl) hHeld (fun _ _ _ h => h) (v := ?_) ?_ ?_
          rotate_left 1
          · (intro w hSw; (try dsimp only at hSw); (try simp only [List.getElem_toArray, List.getElem_cons_succ, List.getElem_cons_zero]); go_simp) <;> (with_reducible rfl)
          try simp only [List.getElem_toArray, List.getElem_cons_succ, List.getElem_cons_zero, Act.put, List.setIfInBounds_toArray, List.set_cons_zero, List.set_cons_succ]
          refine tk 7 rfl (by kernel_rfl) hHeld (fun _ _ _ h => h) (v := ?_) ?_ ?_
          rotate_left 1
          · (intro w hSw; (try dsimp only at hSw); (try simp only [List.getElem_toArray, List.getElem_cons_succ, List.getElem_cons_zero]); go_simp) <;> (with_reducible rfl)
          try simp only [List.getElem_toArray, List.getElem_cons_succ, List.getElem_cons_zero, Act.put, List.setIfInBounds_toArray, List.set_cons_zero, List.set_cons_succ]
          refine tk 8 rfl (by kernel_rfl) hHeld (fun _ _ _ h => h) (v := ?_) ?_ ?_
          rotate_left 1
          · (intro w hSw; (try dsimp only at hSw); (try simp only [List.getElem_toArray, List.getElem_cons_succ, List.getElem_cons_zero]); go_simp) <;> (with_reducible rfl)
          try simp only [List.getElem_toArray, List.getElem_cons_succ, List.getElem_cons_zero, Act.put, List.setIfInBounds_toArray, List.set_cons_zero, List.set_cons_succ]
          refine tk 9 rfl (by kernel_rfl) hHeld (fun _ _ _ h => h) (v := ?_) ?_ ?_
          rotate_left 1
          · (intro w hSw; (try dsimp only at hSw); (try simp only [List.getElem_toArray, List.getElem_cons_succ, List.getElem_cons_zero]); go_simp) <;> (with_reducible rfl)
          try simp only [List.getElem_toArray, List.getElem_cons_succ, List.getElem_cons_zero, Act.put, List.setIfInBounds_toArray, List.set_cons_zero, List.set_cons_succ]
          refine tk 10 rfl (by kernel_rfl) hHeld (fun _ _ _ h => h) (v := ?_) ?_ ?_
          rotate_left 1
          · (intro w hSw; (try dsimp only at hSw); (try simp only [List.getElem_toArray, List.getElem_cons_succ, List.getElem_cons_zero]); go_simp) <;> (with_reducible rfl)
          try simp only [List.getElem_toArray, List.getElem_cons_succ, List.getElem_cons_zero, Act.put, List.setIfInBounds_toArray, List.set_cons_zero, List.set_cons_succ]
          refine tk 11 rfl (by kernel_rfl) hHeld (fun _ _ _ h => h) (v := ?_) ?_ ?_
          rotate_left 1
          · (intro w hSw; (try dsimp only at hSw); (try simp only [List.getElem_toArray, List.getElem_cons_succ, List.getElem_cons_zero]); go_simp) <;> (with_reducible rfl)
          try simp only [List.getElem_toArray, List.getElem_cons_succ, List.getElem_cons_zero, Act.put, List.setIfInBounds_toArray, List.set_cons_zero, List.set_cons_succ]
          refine tk 12 rfl (by kernel_rfl) hHeld (fun _ _ _ h => h) (v := ?_) ?_ ?_
          rotate_left 1
          · (intro w hSw; (try dsimp only at hSw); (try simp only [List.getElem_toArray, List.getElem_cons_succ, List.getElem_cons_zero]); go_simp) <;> (with_reducible rfl)
          try simp only [List.getElem_toArray, List.getElem_cons_succ, List.getElem_cons_zero, Act.put, List.setIfInBounds_toArray, List.set_cons_zero, List.set_cons_succ]
          refine tk 13 rfl (by kernel_rfl) hHeld (fun _ _ _ h => h) (v := ?_) ?_ ?_
          rotate_left 1
          · (intro w hSw; (try dsimp only at hSw); (try simp only [List.getElem_toArray, List.getElem_cons_succ, List.getElem_cons_zero]); go_simp) <;> (with_reducible rfl)
          try simp only [List.getElem_toArray, List.getElem_cons_succ, List.getElem_cons_zero, Act.put, List.setIfInBounds_toArray, List.set_cons_zero, List.set_cons_succ]
          refine tk 14 rfl (by kernel_rfl) hHeld (fun _ _ _ h => h) (v := ?_) ?_ ?_
          rotate_left 1
          · (intro w hSw; (try dsimp only at hSw); (try simp only [List.getElem_toArray, List.getElem_cons_succ, List.getElem_cons_zero]); go_simp) <;> (with_reducible rfl)
          try simp only [List.getElem_toArray, List.getElem_cons_succ, List.getElem_cons_zero, Act.put, List.setIfInBounds_toArray, List.set_cons_zero, List.set_cons_succ]
          refine wpAnyH_ready (rs := [15]) (by kernel_rfl) (by simp) (AllReadyH.cons rfl (fun K hK => ?_) AllReadyH.nil)
          simp only [List.getElem_toArray, List.getElem_cons_succ, List.getElem_cons_zero]
          go_simp
          go_at_call 30
          refine (WU.out we bd).mono ?_
          rintro e wb ⟨rfl, bz⟩
          try go_wp2_with fail
          have bb := bd.trans (bz.mono bd.size)
          refine hK.out _ _ (CELL.out _ bb) (fun hHeld => ?_)
          clear hK K bz
          try simp only [List.getElem_toArray, List.getElem_cons_succ, List.getElem_cons_zero, Act.put, List.setIfInBounds_toArray, List.set_cons_zero, List.set_cons_succ]
          refine tk 16 rfl (by kernel_rfl) hHeld (fun _ _ _ h => h) (v := ?_) ?_ ?_
          rotate_left 1
          · (intro w hSw; (try dsimp only at hSw); (try simp only [List.getElem_toArray, List.getElem_cons_succ, List.getElem_cons_zero]); go_simp) <;> (with_reducible rfl)
          try simp only [List.getElem_toArray, List.getElem_cons_succ, List.getElem_cons_zero, Act.put, List.setIfInBounds_toArray, List.set_cons_zero, List.set_cons_succ]
          refine tk 17 rfl (by kernel_rfl) hHeld (fun _ _ _ h => h) (v := ?_) ?_ ?_
          rotate_left 1
          · (intro w hSw; (try dsimp only at hSw); (try simp only [List.getElem_toArray, List.getElem_cons_succ, List.getElem_cons_zero]); go_simp) <;> (with_reducible rfl)
          try simp only [List.getElem_toArray, List.getElem_cons_succ, List.getElem_cons_zero, Act.put, List.setIfInBounds_toArray, List.set_cons_zero, List.set_cons_succ]
          refine tk 18 rfl (by kernel_rfl) hHeld (fun _ _ _ h => h) (v := ?_) ?_ ?_
          rotate_left 1
          · (intro w hSw; (try dsimp only at hSw); (try simp only [List.getElem_toArray, List.getElem_cons_succ, List.getElem_cons_zero]); go_simp) <;> (with_reducible rfl)
          try simp only [List.getElem_toArray, List.getElem_cons_succ, List.getElem_cons_zero, Act.put, List.setIfInBounds_toArray, List.set_cons_zero, List.set_cons_succ]
          refine wpAnyH_done (by kernel_rfl) ?_ _
          have BE := Lib.hid bb
          clear bb bd hHeld nn0 tt0 tt1 tt2 tt3 tt4 tt5 tt6 tt7 rr0 rr1 rr2 rr3 rr4 nn1 nn2 nn3 nn4 nn5 nn6 nn7 nn8 nn9 nn10
          obtain ⟨tt0, tt1, tt2, tt3, tt4, tt5, tt6, tt7, _⟩ := CELL.out _ BE.out
          go_wp2_with fail
          go_roundw
          case rel => exact ⟨k + 1, by omega, by go_num, by rw [show Q.endAt ck (ss5.map (·.en)) (k + 1) = se7 from by simp [Q.endAt, hlt, HSM.out]], by go_num, Lib.hid (B6.out.trans (BE.out.mono B6.out.size))⟩
          case measure => simp [intOf] <;> omega
      · obtain rfl : k = ss5.length := by omega
        have q0 : decide ((ss5.length : Int) < (ss5.length : Int)) = false := decide_eq_false (by omega)
        clear hlt
        have o6 := OI5.out.below hB.out OI5.out.sz
        have o7 := o6.below (below_box wr (.cells #[] 25)) o6.sz
        have hq7 := HQ3.out.below o7.b
        obtain ⟨ka0, ka1, ka2, ka3, ka4, ka5, ka6, ka7, ka8, ka9, ka10⟩ := Q.hq_cells hq7
        have v7 := o7.v
        have kr0 := cell_of_block_ (i := 0) v7
        have kr1 := cell_of_block_ (i := 1) v7
        have kr2 := cell_of_block_ (i := 2) v7
        have kr3 := cell_of_block_ (i := 3) v7
        have kr4 := cell_of_block_ (i := 4) v7
        have kr5 := cell_of_block_ (i := 5) v7
        have kr6 := cell_of_block_ (i := 6) v7
        have kr7 := cell_of_block_ (i := 7) v7
        have kr8 := cell_of_block_ (i := 8) v7
        have kr9 := cell_of_block_ (i := 9) v7
        have kr10 := cell_of_block_ (i := 10) v7
        simp at kr0 kr1 kr2 kr3 kr4 kr5 kr6 kr7 kr8 kr9 kr10
        have SZ7 : Hid (wr.heap.size ≤ (wr.alloc (.cells #[] 25)).heap.size) := Lib.hid (by simp)
        have OW := Lib.hid (World.ownsRow_lit (base := wr.heap.size) (e := 25) (size := 5) wr #[] 0 (Nat.le_refl _) (by decide) rfl)
        have hck5 : ck5 = t2 := by have := XK.out; rw [← E5.out] at this; exact this
        subst hck5
        have XTL := Lib.hid (Q.ord_tail OF.out.1 E5.out ES5.out AU.out)
        obtain ⟨A9, SLC, US9⟩ := Q.slice_from A7 al (k := ss5.length) (c := c7) HLN.out HC7.out
        obtain ⟨l9, hl9_⟩ : ∃ l, List.drop ss5.length al = l := ⟨_, rfl⟩
        rw [hl9_] at XTL US9
        simp only [hl9_] at SLC
        have l9s : l9.length ≤ 17 := by rw [← hl9_, List.length_drop]; omega
        have US9b : Hid (Q.UsIn w5 w5.heap.size A9 l9) := Lib.hid (US9 _ _ ⟨HRD.out, fun m hm => ((AI.out m hm).below OI5.out.b (Nat.le_refl _)).more OI5.out.b.size⟩)
        have US9s : Hid (∀ m ∈ l9, Q.Small m.u) := Lib.hid (fun m hm => (AS.out m (by rw [← hl9_] at hm; exact List.mem_of_mem_drop hm)).1)
        have hi5 : it5.length ≤ 16 := by have := XS.out.1; rw [← E5.out] at this; simpa [Q.Qm.a] using this
        have B5 := Lib.hid (B3.out.trans (OI5.out.b.mono B3.out.size))
        have CELL2 : Hid (∀ W : World, Below w5.heap.size w5 W → (W.cell? ⟨w.heap.size, 0, none⟩ = some (.int .i64 ck) ∧ W.cell? ⟨w3.heap.size, 0, none⟩ = some (.int .i64 ck5) ∧ W.cell? ⟨w3.heap.size, 10, none⟩ = some (.slice ai5 it5.length ci5))) := Lib.hid (fun W hb => ⟨(Q.hq_cells (HQ3.out.below (OI5.out.b.trans (hb.mono OI5.out.b.size)))).1, by have h := cell_of_block_ (i := 0) (OI5.out.below hb OI5.out.sz).v; simpa using h, by have h := cell_of_block_ (i := 10) (OI5.out.below hb OI5.out.sz).v; simpa using h⟩)
        have BF7 := Lib.hid (hB.out.trans ((below_box wr (.cells #[] 25)).mono hB.out.size))
        clear o6 o7 hq7 v7 hl9_ US9
        cases sp5 with
        | false =>
          go_wp2_with fail
          obtain ⟨W9, hW9⟩ : ∃ W, (wr.alloc (.cells #[] 25)) = W := ⟨_, rfl⟩
          rw [hW9] at SZ7 OW BF7 ⊢
          clear hW9 ka0 ka1 ka2 ka3 ka4 ka5 ka6 ka7 ka8 ka9 ka10 kr0 kr1 kr2 kr3 kr4 kr5 kr6 kr7 kr8 kr9 kr10
          have LST : Hid (Q.allU (⟨ck5, rt5, false, ⟨⟨p05, p15, p25, p35, p45⟩, a05, c05, a15, c15⟩, be5, en5, it5, ai5, ci5⟩ : Q.Qm) = [] ++ it5) := Lib.hid rfl
          have EL8 : Hid (∀ m ∈ ([] : List Q.Um), Q.UIn w3 w3.heap.size m) := Lib.hid (fun m hm => by cases hm)
          have OWX : Hid (W9.ownsRow wr.heap.size 25 5 (.slice (some ⟨wr.heap.size, 0, none⟩) 0 0) 0 (Q.ucs [])) := Lib.hid OW.out
          clear OW
          refine wp_normal ?_
          refine wp_region_held_drew (S := fun w' => w'.cell? ⟨w.heap.size, 0, none⟩ = some (.int .i64 ck) ∧ w'.cell? ⟨w3.heap.size, 0, none⟩ = some (.int .i64 ck5) ∧ w'.cell? ⟨w3.heap.size, 10, none⟩ = some (.slice ai5 it5.length ci5)) (by kernel_rfl) (CELL2.out _ BF7.out.drew) (fun hHeld => ?_)
          obtain ⟨wd, hwd⟩ : ∃ wd, W9.drew = wd := ⟨_, rfl⟩
          have bd : Hid (Below w5.heap.size w5 wd) := Lib.hid (by rw [← hwd]; exact BF7.out.drew)
          have sd : Hid (wr.heap.size ≤ wd.heap.size) := Lib.hid (by rw [← hwd]; exact SZ7.out)
          have od : Hid (wd.ownsRow wr.heap.size 25 5 (.slice (some ⟨wr.heap.size, 0, none⟩) 0 0) 0 (Q.ucs ([] : List Q.Um))) := Lib.hid (by rw [← hwd]; exact OWX.out.drew)
          rw [hwd] at hHeld ⊢
          clear hwd
          refine tk 0 rfl (by kernel_rfl) hHeld (fun _ _ _ h => h) (v := ?_) ?_ ?_
          rotate_left 1
          · (intro w hSw; (try dsimp only at hSw); (try simp only [List.getElem_toArray, List.getElem_cons_succ, List.getElem_cons_zero]); go_simp) <;> (with_reducible rfl)
          try simp only [List.getElem_toArray, List.getElem_cons_succ, List.getElem_cons_zero, Act.put, List.setIfInBounds_toArray, List.set_cons_zero, List.set_cons_succ]
          refine tk 1 rfl (by kernel_rfl) hHeld (fun _ _ _ h => h) (v := ?_) ?_ ?_
          rotate_left 1
          · (intro w hSw; (try dsimp only at hSw); (try simp only [List.getElem_toArray, List.getElem_cons_succ, List.getElem_cons_zero]); go_simp) <;> (with_reducible rfl)
          try simp only [List.getElem_toArray, List.getElem_cons_succ, List.getElem_cons_zero, Act.put, List.setIfInBounds_toArray, List.set_cons_zero, List.set_cons_succ]
          refine tk 2 rfl (by kernel_rfl) hHeld (fun _ _ _ h => h) (v := ?_) ?_ ?_
          rotate_left 1
          · (intro w hSw; (try dsimp only at hSw); (try simp only [List.getElem_toArray, List.getElem_cons_succ, List.getElem_cons_zero]); go_simp) <;> (with_reducible rfl)
          try simp only [List.getElem_toArray, List.getElem_cons_succ, List.getElem_cons_zero, Act.put, List.setIfInBounds_toArray, List.set_cons_zero, List.set_cons_succ]
          refine tk 3 rfl (by kernel_rfl) hHeld (fun _ _ _ h => h) (v := ?_) ?_ ?_
          rotate_left 1
          · (intro w hSw; (try dsimp only at hSw); (try simp only [List.getElem_toArray, List.getElem_cons_succ, List.getElem_cons_zero]); go_simp) <;> (with_reducible rfl)
          try simp only [List.getElem_toArray, List.getElem_cons_succ, List.getElem_cons_zero, Act.put, List.setIfInBounds_toArray, List.set_cons_zero, List.set_cons_succ]
          refine tk 4 rfl (by kernel_rfl) hHeld (fun _ _ _ h => h) (v := ?_) ?_ ?_
          rotate_left 1
          · (intro w hSw; (try dsimp only at hSw); (try simp only [List.getElem_toArray, List.getElem_cons_succ, List.getElem_cons_zero]); go_simp) <;> (with_reducible rfl)
          try simp only [List.getElem_toArray, List.getElem_cons_succ, List.getElem_cons_zero, Act.put, List.setIfInBounds_toArray, List.set_cons_zero, List.set_cons_succ]
          refine tk 5 rfl (by kernel_rfl) hHeld (fun _ _ _ h => h) (v := ?_) ?_ ?_
          rotate_left 1
          · (intro w hSw; (try dsimp only at hSw); (try simp only [List.getElem_toArray, List.getElem_cons_succ, List.getElem_cons_zero]); go_simp) <;> (with_reducible rfl)
          try simp only [List.getElem_toArray, List.getElem_cons_succ, List.getElem_cons_zero, Act.put, List.setIfInBounds_toArray, List.set_cons_zero, List.set_cons_succ]
          refine tk 6 rfl (by kernel_rfl) hHeld (fun _ _ _ h => h) (v := ?_) ?_ ?_
          rotate_left 1
          · (intro w hSw; (try dsimp only at hSw); (try simp only [List.getElem_toArray, List.getElem_cons_succ, List.getElem_cons_zero]); go_simp) <;> (with_reducible rfl)
          try simp only [List.getElem_toArray, List.getElem_cons_succ, List.getElem_cons_zero, Act.put, List.setIfInBounds_toArray, List.set_cons_zero, List.set_cons_succ]
          refine tk 7 rfl (by kernel_rfl) hHeld (fun _ _ _ h => h) (v := ?_) ?_ ?_
          rotate_left 1
          · (intro w hSw; (try dsimp only at hSw); (try simp only [List.getElem_toArray, List.getElem_cons_succ, List.getElem_cons_zero]); go_simp) <;> (with_reducible rfl)
          try simp only [List.getElem_toArray, List.getElem_cons_succ, List.getElem_cons_zero, Act.put, List.setIfInBounds_toArray, List.set_cons_zero, List.set_cons_succ]
          refine tk 8 rfl (by kernel_rfl) hHeld (fun _ _ _ h => h) (v := ?_) ?_ ?_
          rotate_left 1
          · (intro w hSw; (try dsimp only at hSw); (try simp only [List.getElem_toArray, List.getElem_cons_succ, List.getElem_cons_zero]); go_simp) <;> (with_reducible rfl)
          try simp only [List.getElem_toArray, List.getElem_cons_succ, List.getElem_cons_zero, Act.put, List.setIfInBounds_toArray, List.set_cons_zero, List.set_cons_succ]
          refine tk 9 rfl (by kernel_rfl) hHeld (fun _ _ _ h => h) (v := ?_) ?_ ?_
          rotate_left 1
          · (intro w hSw; (try dsimp only at hSw); (try simp only [List.getElem_toArray, List.getElem_cons_succ, List.getElem_cons_zero]); go_simp) <;> (with_reducible rfl)
          try simp only [List.getElem_toArray, List.getElem_cons_succ, List.getElem_cons_zero, Act.put, List.setIfInBounds_toArray, List.set_cons_zero, List.set_cons_succ]
          refine tk 10 rfl (by kernel_rfl) hHeld (fun _ _ _ h => h) (v := ?_) ?_ ?_
          rotate_left 1
          · (intro w hSw; (try dsimp only at hSw); (try simp only [List.getElem_toArray, List.getElem_cons_succ, List.getElem_cons_zero]); go_simp) <;> (with_reducible rfl)
          try simp only [List.getElem_toArray, List.getElem_cons_succ, List.getElem_cons_zero, Act.put, List.setIfInBounds_toArray, List.set_cons_zero, List.set_cons_succ]
          refine tk 11 rfl (by kernel_rfl) hHeld (fun _ _ _ h => h) (v := ?_) ?_ ?_
          rotate_left 1
          · (intro w hSw; (try dsimp only at hSw); (try simp only [List.getElem_toArray, List.getElem_cons_succ, List.getElem_cons_zero]); go_simp) <;> (with_reducible rfl)
          try simp only [List.getElem_toArray, List.getElem_cons_succ, List.getElem_cons_zero, Act.put, List.setIfInBounds_toArray, List.set_cons_zero, List.set_cons_succ]
          refine tk 12 rfl (by kernel_rfl) hHeld (fun _ _ _ h => h) (v := ?_) ?_ ?_
          rotate_left 1
          · (intro w hSw; (try dsimp only at hSw); (try simp only [List.getElem_toArray, List.getElem_cons_succ, List.getElem_cons_zero]); go_simp) <;> (with_reducible rfl)
          try simp only [List.getElem_toArray, List.getElem_cons_succ, List.getElem_cons_zero, Act.put, List.setIfInBounds_toArray, List.set_cons_zero, List.set_cons_succ]
          refine tk 13 rfl (by kernel_rfl) hHeld (fun _ _ _ h => h) (v := ?_) ?_ ?_
          rotate_left 1
          · (intro w hSw; (try dsimp only at hSw); (try simp only [List.getElem_toArray, List.getElem_cons_succ, List.getElem_cons_zero]); go_simp) <;> (with_reducible rfl)
          try simp only [List.getElem_toArray, List.getElem_cons_succ, List.getElem_cons_zero, Act.put, List.setIfInBounds_toArray, List.set_cons_zero, List.set_cons_succ]
          refine tk 14 rfl (by kernel_rfl) hHeld (fun _ _ _ h => h) (v := ?_) ?_ ?_
          rotate_left 1
          · (intro w hSw; (try dsimp only at hSw); (try simp only [List.getElem_toArray, List.getElem_cons_succ, List.getElem_cons_zero]); go_simp) <;> (with_reducible rfl)
          try simp only [List.getElem_toArray, List.getElem_cons_succ, List.getElem_cons_zero, Act.put, List.setIfInBounds_toArray, List.set_cons_zero, List.set_cons_succ]
          refine tk 15 rfl (by kernel_rfl) hHeld (fun _ _ _ h => h) (v := ?_) ?_ ?_
          rotate_left 1
          · (intro w hSw; (try dsimp only at hSw); (try simp only [List.getElem_toArray, List.getElem_cons_succ, List.getElem_cons_zero]); go_simp) <;> (with_reducible rfl)
          try simp only [List.getElem_toArray, List.getElem_cons_succ, List.getElem_cons_zero, Act.put, List.setIfInBounds_toArray, List.set_cons_zero, List.set_cons_succ]
          refine tk 17 rfl (by kernel_rfl) hHeld (fun _ _ _ h => h) (v := ?_) ?_ ?_
          rotate_left 1
          · (intro w hSw; (try dsimp only at hSw); (try simp only [List.getElem_toArray, List.getElem_cons_succ, List.getElem_cons_zero]); go_simp) <;> (with_reducible rfl)
          try simp only [List.getElem_toArray, List.getElem_cons_succ, List.getElem_cons_zero, Act.put, List.setIfInBounds_toArray, List.set_cons_zero, List.set_cons_succ]
          refine tk 18 rfl (by kernel_rfl) hHeld (fun _ _ _ h => h) (v := ?_) ?_ ?_
          rotate_left 1
          · (intro w hSw; (try dsimp only at hSw); (try simp only [List.getElem_toArray, List.getElem_cons_succ, List.getElem_cons_zero]); go_simp) <;> (with_reducible rfl)
          try simp only [List.getElem_toArray, List.getElem_cons_succ, List.getElem_cons_zero, Act.put, List.setIfInBounds_toArray, List.set_cons_zero, List.set_cons_succ]
          refine tk 19 rfl (by kernel_rfl) hHeld (fun _ _ _ h => h) (v := ?_) ?_ ?_
          rotate_left 1
          · (intro w hSw; (try dsimp only at hSw); (try simp only [List.getElem_toArray, List.getElem_cons_succ, List.getElem_cons_zero]); go_simp) <;> (with_reducible rfl)
          try simp only [List.getElem_toArray, List.getElem_cons_succ, List.getElem_cons_zero, Act.put, List.setIfInBounds_toArray, List.set_cons_zero, List.set_cons_succ]
          refine wpAnyH_ready (rs := [16]) (by kernel_rfl) (by simp) (AllReadyH.cons rfl (fun K hK => ?_) AllReadyH.nil)
          refine step_append_want _ (by kernel_rfl) (.tmp 155) (.tmp 157) 26 rfl wr.heap.size 25 iU _ 5 72 Try.underlying26 hiU hU0 hU1 hU2 rfl (by omega) (.slice (some ⟨wr.heap.size, 0, none⟩) 0 0) 0 (Q.ucs ([] : List Q.Um)) rfl od.out w3.heap.size ai5 it5.length _ _ rfl ((I5.out.items.row).below (OI5.out.b.trans (bd.out.mono OI5.out.b.size)) (Nat.le_refl _)) (Q.ucs_one _) (by simp only [maxLen]; omega) (by omega) sd.out ?_
          intro v6 wa hown6 hg6 _
          have g6 := Q.below_turn sd.out hg6 (fun r e => (od.out.lt r e).1)
          obtain ⟨A10, c10, rfl, hrd6, hc6⟩ := own_reads_cap hown6
          have ba : Hid (Below w5.heap.size w5 wa) := Lib.hid (bd.out.trans (g6.mono (Nat.le_trans hB.out.size (Nat.le_refl _))))
          have hl10 : ([] : List Q.Um).length + it5.length = (([] : List Q.Um) ++ it5).length := by rw [List.length_append]
          have U10 : Hid (Q.UsIn wa wa.heap.size A10 (([] : List Q.Um) ++ it5)) := Lib.hid (Q.us_own (c := c10) (by rw [show Q.ucs (([] : List Q.Um) ++ it5) = Q.ucs ([] : List Q.Um) ++ Q.ucs it5 from by simp [Q.ucs]]; exact hown6) hl10 (fun m hm => by rcases List.mem_append.1 hm with hm | hm; exact ((EL8.out m hm).below (OI5.out.b.trans (ba.out.mono OI5.out.b.size)) (Nat.le_refl _)).more (Nat.le_trans OI5.out.b.size ba.out.size); exact ((I5.out.items.el m hm).below (OI5.out.b.trans (ba.out.mono OI5.out.b.size)) (Nat.le_refl _)).more (Nat.le_trans OI5.out.b.size ba.out.size)))
          have SU := sameuts_any A10 A9 c10 (c7 - ss5.length) wa.heap.size (([] : List Q.Um) ++ it5) l9 wa U10.out ((US9b.out.below ba.out (Nat.le_refl _)).more ba.out.size) (Nat.le_refl _) (by rw [← LST.out]; exact XTL.out) (by rw [← hl10]; simp only [List.length_cons, List.length_nil, maxLen]; omega) (fun m hm => by have h1 : m.u ∈ l9.map (·.u) := (by rw [← XTL.out, LST.out]; exact List.mem_map.2 ⟨m, hm, rfl⟩); obtain ⟨m2, h2, h3⟩ := List.mem_map.1 h1; rw [← h3]; exact (US9s.out m2 h2).ok)
          rw [← hl10] at SU
          simp only [List.length_nil, List.length_cons, Nat.zero_add] at SU
          have SUh := Lib.hid SU
          clear SU U10 hl10 hrd6 hc6 g6 hown6 hg6
          refine hK.out _ _ (CELL2.out _ ba.out) (fun hHeld => ?_)
          clear hK K
          try simp only [List.getElem_toArray, List.getElem_cons_succ, List.getElem_cons_zero, Act.put, List.setIfInBounds_toArray, List.set_cons_zero, List.set_cons_succ]
          refine wpAnyH_ready (rs := [20]) (by kernel_rfl) (by simp) (AllReadyH.cons rfl (fun K hK => ?_) AllReadyH.nil)
          simp only [List.getElem_toArray, List.getElem_cons_succ, List.getElem_cons_zero]
          go_simp
          go_at_call 31
          refine SUh.out.mono ?_
          clear SUh
          rintro e wb ⟨rfl, bz⟩
          try go_wp2_with fail
          have bb : Hid (Below w5.heap.size w5 wb) := Lib.hid (ba.out.trans (bz.mono ba.out.size))
          refine hK.out _ _ (CELL2.out _ bb.out) (fun hHeld => ?_)
          clear hK K bz
          try simp only [List.getElem_toArray, List.getElem_cons_succ, List.getElem_cons_zero, Act.put, List.setIfInBounds_toArray, List.set_cons_zero, List.set_cons_succ]
          refine tk 21 rfl (by kernel_rfl) hHeld (fun _ _ _ h => h) (v := ?_) ?_ ?_
          rotate_left 1
          · (intro w hSw; (try dsimp only at hSw); (try simp only [List.getElem_toArray, List.getElem_cons_succ, List.getElem_cons_zero]); go_simp) <;> (with_reducible rfl)
          try simp only [List.getElem_toArray, List.getElem_cons_succ, List.getElem_cons_zero, Act.put, List.setIfInBounds_toArray, List.set_cons_zero, List.set_cons_succ]
          refine tk 22 rfl (by kernel_rfl) hHeld (fun _ _ _ h => h) (v := ?_) ?_ ?_
          rotate_left 1
          · (intro w hSw; (try dsimp only at hSw); (try simp only [List.getElem_toArray, List.getElem_cons_succ, List.getElem_cons_zero]); go_simp) <;> (with_reducible rfl)
          try simp only [List.getElem_toArray, List.getElem_cons_succ, List.getElem_cons_zero, Act.put, List.setIfInBounds_toArray, List.set_cons_zero, List.set_cons_succ]
          refine wpAnyH_ready (rs := [23]) (by kernel_rfl) (by simp) (AllReadyH.cons rfl (fun K hK => ?_) AllReadyH.nil)
          simp only [List.getElem_toArray, List.getElem_cons_succ, List.getElem_cons_zero]
          go_simp
          go_at_call 13
          refine (AWK.out _).mono ?_
          rintro e wc ⟨rfl, bz⟩
          try go_wp2_with fail
          have bc : Hid (Below w5.heap.size w5 wc) := Lib.hid (bb.out.trans (bz.mono bb.out.size))
          refine hK.out _ _ (CELL2.out _ bc.out) (fun hHeld => ?_)
          clear hK K bz
          try simp only [List.getElem_toArray, List.getElem_cons_succ, List.getElem_cons_zero, Act.put, List.setIfInBounds_toArray, List.set_cons_zero, List.set_cons_succ]
          refine tk 24 rfl (by kernel_rfl) hHeld (fun _ _ _ h => h) (v := ?_) ?_ ?_
          rotate_left 1
          · (intro w hSw; (try dsimp only at hSw); (try simp only [List.getElem_toArray, List.getElem_cons_succ, List.getElem_cons_zero]); go_simp) <;> (with_reducible rfl)
          try simp only [List.getElem_toArray, List.getElem_cons_succ, List.getElem_cons_zero, Act.put, List.setIfInBounds_toArray, List.set_cons_zero, List.set_cons_succ]
          refine tk 25 rfl (by kernel_rfl) hHeld (fun _ _ _ h => h) (v := ?_) ?_ ?_
          rotate_left 1
          · (intro w hSw; (try dsimp only at hSw); (try simp only [List.getElem_toArray, List.getElem_cons_succ, List.getElem_cons_zero]); go_simp) <;> (with_reducible rfl)
          try simp only [List.getElem_toArray, List.getElem_cons_succ, List.getElem_cons_zero, Act.put, List.setIfInBounds_toArray, List.set_cons_zero, List.set_cons_succ]
          refine wpAnyH_done (by kernel_rfl) ?_ _
          have BE := Lib.hid (B5.out.trans (bc.out.mono B5.out.size))
          clear hHeld
          go_wp2_with fail
          go_ret
          exact ⟨rfl, BE.out⟩
        | true =>
          go_wp2_with (first
            | (at_builtin; (have RDC : Reads ((wr.alloc (.cells #[] 25)).alloc (.cells #[.slice a05 p05.length c05, .slice a15 p15.length c15, .int .i64 p25, .int .i64 p35, .int .i64 p45] 25)) ((wr.alloc (.cells #[] 25)).alloc (.cells #[.slice a05 p05.length c05, .slice a15 p15.length c15, .int .i64 p25, .int .i64 p35, .int .i64 p45] 25)).heap.size 5 (some ⟨wr.heap.size + 1, 0, none⟩) 1 (Q.ucs [⟨⟨p05, p15, p25, p35, p45⟩, a05, c05, a15, c15⟩]) := by have h := Reads.of_own (World.ownsRow_lit (base := (wr.alloc (.cells #[] 25)).heap.size) (e := 25) (size := 5) (wr.alloc (.cells #[] 25)) #[.slice a05 p05.length c05, .slice a15 p15.length c15, .int .i64 p25, .int .i64 p35, .int .i64 p45] 1 (by simp) (by decide) rfl); simp only [World.size_alloc] at h ⊢; exact h); (have OX := OW.out.alloc (.cells #[.slice a05 p05.length c05, .slice a15 p15.length c15, .int .i64 p25, .int .i64 p35, .int .i64 p45] 25)); (have szx : wr.heap.size ≤ ((wr.alloc (.cells #[] 25)).alloc (.cells #[.slice a05 p05.length c05, .slice a15 p15.length c15, .int .i64 p25, .int .i64 p35, .int .i64 p45] 25)).heap.size := by simp; omega); (refine wpList_append_any _ rfl (.tmp 137) (.tmp 140) _ rfl wr.heap.size 25 iU _ 5 72 Try.underlying26 hiU hU0 hU1 hU2 rfl (by omega) (.slice (some ⟨wr.heap.size, 0, none⟩) 0 0) 0 [] rfl OX _ (some ⟨wr.heap.size + 1, 0, none⟩) 1 1 (Q.ucs [⟨⟨p05, p15, p25, p35, p45⟩, a05, c05, a15, c15⟩]) rfl RDC (Q.ucs_one _) (by decide) (by omega) szx ?_); (intro v5 W9 hown5 hg5 hat5); (simp only [Nat.zero_add, List.nil_append] at hown5); (have g5 := Q.below_turn szx hg5 (fun r e => (OX.lt r e).1)); (obtain ⟨A8, c8, rfl, hrd5, hc5⟩ := own_reads_cap hown5); (have bx2 := (below_box (wr.alloc (.cells #[] 25)) (.cells #[.slice a05 p05.length c05, .slice a15 p15.length c15, .int .i64 p25, .int .i64 p35, .int .i64 p45] 25)).mono SZ7.out); (have BF9 := Lib.hid (hB.out.trans (((below_box wr (.cells #[] 25)).trans (bx2.trans g5)).mono hB.out.size))); (have SZ9 : Hid (wr.heap.size ≤ W9.heap.size) := Lib.hid (Nat.le_trans szx g5.size)); (have OWX : Hid (W9.ownsRow wr.heap.size 25 5 (.slice A8 1 c8) 1 (Q.ucs [⟨⟨p05, p15, p25, p35, p45⟩, a05, c05, a15, c15⟩])) := Lib.hid hown5); (clear RDC OX szx bx2 hown5 hg5 hat5 g5 hrd5 hc5 OW BF7 SZ7 ka0 ka1 ka2 ka3 ka4 ka5 ka6 ka7 ka8 ka9 ka10 kr0 kr1 kr2 kr3 kr4 kr5 kr6 kr7 kr8 kr9 kr10)))
          have BF7 := BF9
          have SZ7 := SZ9
          clear BF9 SZ9
          have LST : Hid (Q.allU (⟨ck5, rt5, true, ⟨⟨p05, p15, p25, p35, p45⟩, a05, c05, a15, c15⟩, be5, en5, it5, ai5, ci5⟩ : Q.Qm) = [⟨⟨p05, p15, p25, p35, p45⟩, a05, c05, a15, c15⟩] ++ it5) := Lib.hid rfl
          have EL8 : Hid (∀ m ∈ ([⟨⟨p05, p15, p25, p35, p45⟩, a05, c05, a15, c15⟩] : List Q.Um), Q.UIn w3 w3.heap.size m) := Lib.hid (fun m hm => by rw [List.mem_singleton.1 hm]; exact I5.out.cur)
          refine wp_normal ?_
          refine wp_region_held_drew (S := fun w' => w'.cell? ⟨w.heap.size, 0, none⟩ = some (.int .i64 ck) ∧ w'.cell? ⟨w3.heap.size, 0, none⟩ = some (.int .i64 ck5) ∧ w'.cell? ⟨w3.heap.size, 10, none⟩ = some (.slice ai5 it5.length ci5)) (by kernel_rfl) (CELL2.out _ BF7.out.drew) (fun hHeld => ?_)
          obtain ⟨wd, hwd⟩ : ∃ wd, W9.drew = wd := ⟨_, rfl⟩
          have bd : Hid (Below w5.heap.size w5 wd) := Lib.hid (by rw [← hwd]; exact BF7.out.drew)
          have sd : Hid (wr.heap.size ≤ wd.heap.size) := Lib.hid (by rw [← hwd]; exact SZ7.out)
          have od : Hid (wd.ownsRow wr.heap.size 25 5 (.slice A8 1 c8) 1 (Q.ucs ([⟨⟨p05, p15, p25, p35, p45⟩, a05, c05, a15, c15⟩] : List Q.Um))) := Lib.hid (by rw [← hwd]; exact OWX.out.drew)
          rw [hwd] at hHeld ⊢
          clear hwd
          refine tk 0 rfl (by kernel_rfl) hHeld (fun _ _ _ h => h) (v := ?_) ?_ ?_
          rotate_left 1
          · (intro w hSw; (try dsimp only at hSw); (try simp only [List.getElem_toArray, List.getElem_cons_succ, List.getElem_cons_zero]); go_simp) <;> (with_reducible rfl)
          try simp only [List.getElem_toArray, List.getElem_cons_succ, List.getElem_cons_zero, Act.put, List.setIfInBounds_toArray, List.set_cons_zero, List.set_cons_succ]
          refine tk 1 rfl (by kernel_rfl) hHeld (fun _ _ _ h => h) (v := ?_) ?_ ?_
          rotate_left 1
          · (intro w hSw; (try dsimp only at hSw); (try simp only [List.getElem_toArray, List.getElem_cons_succ, List.getElem_cons_zero]); go_simp) <;> (with_reducible rfl)
          try simp only [List.getElem_toArray, List.getElem_cons_succ, List.getElem_cons_zero, Act.put, List.setIfInBounds_toArray, List.set_cons_zero, List.set_cons_succ]
          refine tk 2 rfl (by kernel_rfl) hHeld (fun _ _ _ h => h) (v := ?_) ?_ ?_
          rotate_left 1
          · (intro w hSw; (try dsimp only at hSw); (try simp only [List.getElem_toArray, List.getElem_cons_succ, List.getElem_cons_zero]); go_simp) <;> (with_reducible rfl)
          try simp only [List.getElem_toArray, List.getElem_cons_succ, List.getElem_cons_zero, Act.put, List.setIfInBounds_toArray, List.set_cons_zero, List.set_cons_succ]
          refine tk 3 rfl (by kernel_rfl) hHeld (fun _ _ _ h => h) (v := ?_) ?_ ?_
          rotate_left 1
          · (intro w hSw; (try dsimp only at hSw); (try simp only [List.getElem_toArray, List.getElem_cons_succ, List.getElem_cons_zero]); go_simp) <;> (with_reducible rfl)
          try simp only [List.getElem_toArray, List.getElem_cons_succ, List.getElem_cons_zero, Act.put, List.setIfInBounds_toArray, List.set_cons_zero, List.set_cons_succ]
          refine tk 4 rfl (by kernel_rfl) hHeld (fun _ _ _ h => h) (v := ?_) ?_ ?_
          rotate_left 1
          · (intro w hSw; (try dsimp only at hSw); (try simp only [List.getElem_toArray, List.getElem_cons_succ, List.getElem_cons_zero]); go_simp) <;> (with_reducible rfl)
          try simp only [List.getElem_toArray, List.getElem_cons_succ, List.getElem_cons_zero, Act.put, List.setIfInBounds_toArray, List.set_cons_zero, List.set_cons_succ]
          refine tk 5 rfl (by kernel_rfl) hHeld (fun _ _ _ h => h) (v := ?_) ?_ ?_
          rotate_left 1
          · (intro w hSw; (try dsimp only at hSw); (try simp only [List.getElem_toArray, List.getElem_cons_succ, List.getElem_cons_zero]); go_simp) <;> (with_reducible rfl)
          try simp only [List.getElem_toArray, List.getElem_cons_succ, List.getElem_cons_zero, Act.put, List.setIfInBounds_toArray, List.set_cons_zero, List.set_cons_succ]
          refine tk 6 rfl (by kernel_rfl) hHeld (fun _ _ _ h => h) (v := ?_) ?_ ?_
          rotate_left 1
          · (intro w hSw; (try dsimp only at hSw); (try simp only [List.getElem_toArray, List.getElem_cons_succ, List.getElem_cons_zero]); go_simp) <;> (with_reducible rfl)
          try simp only [List.getElem_toArray, List.getElem_cons_succ, List.getElem_cons_zero, Act.put, List.setIfInBounds_toArray, List.set_cons_zero, List.set_cons_succ]
          refine tk 7 rfl (by kernel_rfl) hHeld (fun _ _ _ h => h) (v := ?_) ?_ ?_
          rotate_left 1
          · (intro w hSw; (try dsimp only at hSw); (try simp only [List.getElem_toArray, List.getElem_cons_succ, List.getElem_cons_zero]); go_simp) <;> (with_reducible rfl)
          try simp only [List.getElem_toArray, List.getElem_cons_succ, List.getElem_cons_zero, Act.put, List.setIfInBounds_toArray, List.set_cons_zero, List.set_cons_succ]
          refine tk 8 rfl (by kernel_rfl) hHeld (fun _ _ _ h => h) (v := ?_) ?_ ?_
          rotate_left 1
          · (intro w hSw; (try dsimp only at hSw); (try simp only [List.getElem_toArray, List.getElem_cons_succ, List.getElem_cons_zero]); go_simp) <;> (with_reducible rfl)
          try simp only [List.getElem_toArray, List.getElem_cons_succ, List.getElem_cons_zero, Act.put, List.setIfInBounds_toArray, List.set_cons_zero, List.set_cons_succ]
          refine tk 9 rfl (by kernel_rfl) hHeld (fun _ _ _ h => h) (v := ?_) ?_ ?_
          rotate_left 1
          · (intro w hSw; (try dsimp only at hSw); (try simp only [List.getElem_toArray, List.getElem_cons_succ, List.getElem_cons_zero]); go_simp) <;> (with_reducible rfl)
          try simp only [List.getElem_toArray, List.getElem_cons_succ, List.getElem_cons_zero, Act.put, List.setIfInBounds_toArray, List.set_cons_zero, List.set_cons_succ]
          refine tk 10 rfl (by kernel_rfl) hHeld (fun _ _ _ h => h) (v := ?_) ?_ ?_
          rotate_left 1
          · (intro w hSw; (try dsimp only at hSw); (try simp only [List.getElem_toArray, List.getElem_cons_succ, List.getElem_cons_zero]); go_simp) <;> (with_reducible rfl)
          try simp only [List.getElem_toArray, List.getElem_cons_succ, List.getElem_cons_zero, Act.put, List.setIfInBounds_toArray, List.set_cons_zero, List.set_cons_succ]
          refine tk 11 rfl (by kernel_rfl) hHeld (fun _ _ _ h => h) (v := ?_) ?_ ?_
          rotate_left 1
          · (intro w hSw; (try dsimp only at hSw); (try simp only [List.getElem_toArray, List.getElem_cons_succ, List.getElem_cons_zero]); go_simp) <;> (with_reducible rfl)
          try simp only [List.getElem_toArray, List.getElem_cons_succ, List.getElem_cons_zero, Act.put, List.setIfInBounds_toArray, List.set_cons_zero, List.set_cons_succ]
          refine tk 12 rfl (by kernel_rfl) hHeld (fun _ _ _ h => h) (v := ?_) ?_ ?_
          rotate_left 1
          · (intro w hSw; (try dsimp only at hSw); (try simp only [List.getElem_toArray, List.getElem_cons_succ, List.getElem_cons_zero]); go_simp) <;> (with_reducible rfl)
          try simp only [List.getElem_toArray, List.getElem_cons_succ, List.getElem_cons_zero, Act.put, List.setIfInBounds_toArray, List.set_cons_zero, List.set_cons_succ]
          refine tk 13 rfl (by kernel_rfl) hHeld (fun _ _ _ h => h) (v := ?_) ?_ ?_
          rotate_left 1
          · (intro w hSw; (try dsimp only at hSw); (try simp only [List.getElem_toArray, List.getElem_cons_succ, List.getElem_cons_zero]); go_simp) <;> (with_reducible rfl)
          try simp only [List.getElem_toArray, List.getElem_cons_succ, List.getElem_cons_zero, Act.put, List.setIfInBounds_toArray, List.set_cons_zero, List.set_cons_succ]
          refine tk 14 rfl (by kernel_rfl) hHeld (fun _ _ _ h => h) (v := ?_) ?_ ?_
          rotate_left 1
          · (intro w hSw; (try dsimp only at hSw); (try simp only [List.getElem_toArray, List.getElem_cons_succ, List.getElem_cons_zero]); go_simp) <;> (with_reducible rfl)
          try simp only [List.getElem_toArray, List.getElem_cons_succ, List.getElem_cons_zero, Act.put, List.setIfInBounds_toArray, List.set_cons_zero, List.set_cons_succ]
          refine tk 15 rfl (by kernel_rfl) hHeld (fun _ _ _ h => h) (v := ?_) ?_ ?_
          rotate_left 1
          · (intro w hSw; (try dsimp only at hSw); (try simp only [List.getElem_toArray, List.getElem_cons_succ, List.getElem_cons_zero]); go_simp) <;> (with_reducible rfl)
          try simp only [List.getElem_toArray, List.getElem_cons_succ, List.getElem_cons_zero, Act.put, List.setIfInBounds_toArray, List.set_cons_zero, List.set_cons_succ]
          refine tk 17 rfl (by kernel_rfl) hHeld (fun _ _ _ h => h) (v := ?_) ?_ ?_
          rotate_left 1
          · (intro w hSw; (try dsimp only at hSw); (try simp only [List.getElem_toArray, List.getElem_cons_succ, List.getElem_cons_zero]); go_simp) <;> (with_reducible rfl)
          try simp only [List.getElem_toArray, List.getElem_cons_succ, List.getElem_cons_zero, Act.put, List.setIfInBounds_toArray, List.set_cons_zero, List.set_cons_succ]
          refine tk 18 rfl (by kernel_rfl) hHeld (fun _ _ _ h => h) (v := ?_) ?_ ?_
          rotate_left 1
          · (intro w hSw; (try dsimp only at hSw); (try simp only [List.getElem_toArray, List.getElem_cons_succ, List.getElem_cons_zero]); go_simp) <;> (with_reducible rfl)
          try simp only [List.getElem_toArray, List.getElem_cons_succ, List.getElem_cons_zero, Act.put, List.setIfInBounds_toArray, List.set_cons_zero, List.set_cons_succ]
          refine tk 19 rfl (by kernel_rfl) hHeld (fun _ _ _ h => h) (v := ?_) ?_ ?_
          rotate_left 1
          · (intro w hSw; (try dsimp only at hSw); (try simp only [List.getElem_toArray, List.getElem_cons_succ, List.getElem_cons_zero]); go_simp) <;> (with_reducible rfl)
          try simp only [List.getElem_toArray, List.getElem_cons_succ, List.getElem_cons_zero, Act.put, List.setIfInBounds_toArray, List.set_cons_zero, List.set_cons_succ]
          refine wpAnyH_ready (rs := [16]) (by kernel_rfl) (by simp) (AllReadyH.cons rfl (fun K hK => ?_) AllReadyH.nil)
          refine step_append_want _ (by kernel_rfl) (.tmp 155) (.tmp 157) 26 rfl wr.heap.size 25 iU _ 5 72 Try.underlying26 hiU hU0 hU1 hU2 rfl (by omega) (.slice A8 1 c8) 1 (Q.ucs ([⟨⟨p05, p15, p25, p35, p45⟩, a05, c05, a15, c15⟩] : List Q.Um)) rfl od.out w3.heap.size ai5 it5.length _ _ rfl ((I5.out.items.row).below (OI5.out.b.trans (bd.out.mono OI5.out.b.size)) (Nat.le_refl _)) (Q.ucs_one _) (by simp only [maxLen]; omega) (by omega) sd.out ?_
          intro v6 wa hown6 hg6 _
          have g6 := Q.below_turn sd.out hg6 (fun r e => (od.out.lt r e).1)
          obtain ⟨A10, c10, rfl, hrd6, hc6⟩ := own_reads_cap hown6
          have ba : Hid (Below w5.heap.size w5 wa) := Lib.hid (bd.out.trans (g6.mono (Nat.le_trans hB.out.size (Nat.le_refl _))))
          have hl10 : ([⟨⟨p05, p15, p25, p35, p45⟩, a05, c05, a15, c15⟩] : List Q.Um).length + it5.length = (([⟨⟨p05, p15, p25, p35, p45⟩, a05, c05, a15, c15⟩] : List Q.Um) ++ it5).length := by rw [List.length_append]
          have U10 : Hid (Q.UsIn wa wa.heap.size A10 (([⟨⟨p05, p15, p25, p35, p45⟩, a05, c05, a15, c15⟩] : List Q.Um) ++ it5)) := Lib.hid (Q.us_own (c := c10) (by rw [show Q.ucs (([⟨⟨p05, p15, p25, p35, p45⟩, a05, c05, a15, c15⟩] : List Q.Um) ++ it5) = Q.ucs ([⟨⟨p05, p15, p25, p35, p45⟩, a05, c05, a15, c15⟩] : List Q.Um) ++ Q.ucs it5 from by simp [Q.ucs]]; exact hown6) hl10 (fun m hm => by rcases List.mem_append.1 hm with hm | hm; exact ((EL8.out m hm).below (OI5.out.b.trans (ba.out.mono OI5.out.b.size)) (Nat.le_refl _)).more (Nat.le_trans OI5.out.b.size ba.out.size); exact ((I5.out.items.el m hm).below (OI5.out.b.trans (ba.out.mono OI5.out.b.size)) (Nat.le_refl _)).more (Nat.le_trans OI5.out.b.size ba.out.size)))
          have SU := sameuts_any A10 A9 c10 (c7 - ss5.length) wa.heap.size (([⟨⟨p05, p15, p25, p35, p45⟩, a05, c05, a15, c15⟩] : List Q.Um) ++ it5) l9 wa U10.out ((US9b.out.below ba.out (Nat.le_refl _)).more ba.out.size) (Nat.le_refl _) (by rw [← LST.out]; exact XTL.out) (by rw [← hl10]; simp only [List.length_cons, List.length_nil, maxLen]; omega) (fun m hm => by have h1 : m.u ∈ l9.map (·.u) := (by rw [← XTL.out, LST.out]; exact List.mem_map.2 ⟨m, hm, rfl⟩); obtain ⟨m2, h2, h3⟩ := List.mem_map.1 h1; rw [← h3]; exact (US9s.out m2 h2).ok)
          rw [← hl10] at SU
          simp only [List.length_nil, List.length_cons, Nat.zero_add] at SU
          have SUh := Lib.hid SU
          clear SU U10 hl10 hrd6 hc6 g6 hown6 hg6
          refine hK.out _ _ (CELL2.out _ ba.out) (fun hHeld => ?_)
          clear hK K
          try simp only [List.getElem_toArray, List.getElem_cons_succ, List.getElem_cons_zero, Act.put, List.setIfInBounds_toArray, List.set_cons_zero, List.set_cons_succ]
          refine wpAnyH_ready (rs := [20]) (by kernel_rfl) (by simp) (AllReadyH.cons rfl (fun K hK => ?_) AllReadyH.nil)
          simp only [List.getElem_toArray, List.getElem_cons_succ, List.getElem_cons_zero]
          go_simp
          go_at_call 31
          refine SUh.out.mono ?_
          clear SUh
          rintro e wb ⟨rfl, bz⟩
          try go_wp2_with fail
          have bb : Hid (Below w5.heap.size w5 wb) := Lib.hid (ba.out.trans (bz.mono ba.out.size))
          refine hK.out _ _ (CELL2.out _ bb.out) (fun hHeld => ?_)
          clear hK K bz
          try simp only [List.getElem_toArray, List.getElem_cons_succ, List.getElem_cons_zero, Act.put, List.setIfInBounds_toArray, List.set_cons_zero, List.set_cons_succ]
          refine tk 21 rfl (by kernel_rfl) hHeld (fun _ _ _ h => h) (v := ?_) ?_ ?_
          rotate_left 1
          · (intro w hSw; (try dsimp only at hSw); (try simp only [List.getElem_toArray, List.getElem_cons_succ, List.getElem_cons_zero]); go_simp) <;> (with_reducible rfl)
          try simp only [List.getElem_toArray, List.getElem_cons_succ, List.getElem_cons_zero, Act.put, List.setIfInBounds_toArray, List.set_cons_zero, List.set_cons_succ]
          refine tk 22 rfl (by kernel_rfl) hHeld (fun _ _ _ h => h) (v := ?_) ?_ ?_
          rotate_left 1
          · (intro w hSw; (try dsimp only at hSw); (try simp only [List.getElem_toArray, List.getElem_cons_succ, List.getElem_cons_zero]); go_simp) <;> (with_reducible rfl)
          try simp only [List.getElem_toArray, List.getElem_cons_succ, List.getElem_cons_zero, Act.put, List.setIfInBounds_toArray, List.set_cons_zero, List.set_cons_succ]
          refine wpAnyH_ready (rs := [23]) (by kernel_rfl) (by simp) (AllReadyH.cons rfl (fun K hK => ?_) AllReadyH.nil)
          simp only [List.getElem_toArray, List.getElem_cons_succ, List.getElem_cons_zero]
          go_simp
          go_at_call 13
          refine (AWK.out _).mono ?_
          rintro e wc ⟨rfl, bz⟩
          try go_wp2_with fail
          have bc : Hid (Below w5.heap.size w5 wc) := Lib.hid (bb.out.trans (bz.mono bb.out.size))
          refine hK.out _ _ (CELL2.out _ bc.out) (fun hHeld => ?_)
          clear hK K bz
          try simp only [List.getElem_toArray, List.getElem_cons_succ, List.getElem_cons_zero, Act.put, List.setIfInBounds_toArray, List.set_cons_zero, List.set_cons_succ]
          refine tk 24 rfl (by kernel_rfl) hHeld (fun _ _ _ h => h) (v := ?_) ?_ ?_
          rotate_left 1
          · (intro w hSw; (try dsimp only at hSw); (try simp only [List.getElem_toArray, List.getElem_cons_succ, List.getElem_cons_zero]); go_simp) <;> (with_reducible rfl)
          try simp only [List.getElem_toArray, List.getElem_cons_succ, List.getElem_cons_zero, Act.put, List.setIfInBounds_toArray, List.set_cons_zero, List.set_cons_succ]
          refine tk 25 rfl (by kernel_rfl) hHeld (fun _ _ _ h => h) (v := ?_) ?_ ?_
          rotate_left 1
          · (intro w hSw; (try dsimp only at hSw); (try simp only [List.getElem_toArray, List.getElem_cons_succ, List.getElem_cons_zero]); go_simp) <;> (with_reducible rfl)
          try simp only [List.getElem_toArray, List.getElem_cons_succ, List.getElem_cons_zero, Act.put, List.setIfInBounds_toArray, List.set_cons_zero, List.set_cons_succ]
          refine wpAnyH_done (by kernel_rfl) ?_ _
          have BE := Lib.hid (B5.out.trans (bc.out.mono B5.out.size))
          clear hHeld
          go_wp2_with fail
          go_ret
          exact ⟨rfl, BE.out⟩
end Go.Proofs.Ytfjkelngdljikaa
