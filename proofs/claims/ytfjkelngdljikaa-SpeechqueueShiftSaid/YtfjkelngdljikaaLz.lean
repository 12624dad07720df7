/-
  The law Shift of layer 44. By an AI agent.
-/
import Derived.Test.YtfjkelngdljikaaMo
namespace Go.Proofs.Ytfjkelngdljikaa
set_option linter.unusedVariables false
set_option linter.unusedSimpArgs false
open Go.RowKit Go.Joins Go.Deep

theorem Q.Qm.hq_eta (q : Q.Qm) : q = ⟨q.clock, q.rate, q.sp, ⟨⟨q.cur.u.words, q.cur.u.chs, q.cur.u.cl, q.cur.u.af, q.cur.u.up⟩, q.cur.aw, q.cur.cw, q.cur.ac, q.cur.cc⟩, q.be, q.en, q.items, q.ai, q.ci⟩ := rfl
namespace Q
/-- The queue and the time of the call, in their variables. -/
structure SI (w W : World) (d : Int) (q : Qm) : Prop where
  v : W.heap[w.heap.size]? = some (.cells q.cells.toArray 28 (0, 0))
  i : QIn W w.heap.size q
  d : W.heap[w.heap.size + 1]? = some (.cells #[.int .u32 d] 50 (0, 0))
  lt : w.heap.size + 2 ≤ W.heap.size
  b : Below w.heap.size w W
theorem SI.below {w W W' : World} {d : Int} {q : Qm} {B : Nat} (h : SI w W d q) (hb : Below B W W') (hB : w.heap.size + 2 ≤ B) : SI w W' d q :=
  ⟨(hb.block _ (by omega)).trans h.v, h.i.below hb (by omega), (hb.block _ (by omega)).trans h.d, Nat.le_trans h.lt hb.size, h.b.trans (hb.mono (by omega))⟩
theorem SI.hq {w W : World} {d : Int} {q : Qm} (h : SI w W d q) : HQ W w.heap.size q := ⟨h.v, h.i.more (by have := h.lt; omega)⟩
theorem SI.by_ {w W : World} {d : Int} {q : Qm} (h : SI w W d q) : W.cell? ⟨w.heap.size + 1, 0, none⟩ = some (.int .u32 d) := by
  have := cell_of_block_ (i := 0) h.d
  simpa using this
theorem SI.new (w : World) (d : Int) {q : Qm} (h : QIn w w.heap.size q) : SI w ((w.alloc (.cells q.cells.toArray 28)).alloc (.cells #[.int .u32 d] 50)) d q := by
  have b1 := below_box w (.cells q.cells.toArray 28)
  refine ⟨heap_old2 (w.alloc _) _ (heap_alloc_new w _), (h.below ((below_box w _).alloc (by simp) _) (Nat.le_refl _)), ?_, by simp, (below_box w _).alloc (by simp) _⟩
  have := heap_alloc_new (w.alloc (.cells q.cells.toArray 28)) (.cells #[.int .u32 d] 50)
  rwa [World.size_alloc] at this
end Q
set_option maxRecDepth 100000 in
set_option maxHeartbeats 4000000 in
theorem shiftlaw_any (q : Q.Qm) (x1 x2 : Int) (w : World) (hq : Q.QGood w q) (h1 : 0 ≤ x1) (h2 : x1 ≤ 4294967295) (h3 : 0 ≤ x2) (h4 : x2 ≤ 4294967295) :
    Calls Try.prog 10 #[.agg q.cells.toArray, .int .u32 x1, .int .u32 x2] w fun e w' => e = .returned (.bool true) ∧ Below w.heap.size w w' := by
  have S0 := Lib.hid (Q.SI.new w x1 hq.i)
  have RT := Q.right_hq S0.out.hq.i hq.len hq.fits hq.cur
  have AWK := Lib.hid awake_any
  rcases Q.right_cases q.a with hr | ⟨hr, hc, hs⟩
  case inl =>
    rw [hr] at RT
    obtain ⟨ck, rt, sp, ⟨⟨p0, p1, p2, p3, p4⟩, a0, c0, a1, c1⟩, be, en, it, ai, ci⟩ := q
    obtain ⟨k0, k1, k2, k3, k4, k5, k6, k7, k8, k9, k10⟩ := Q.hq_cells S0.out.hq
    have zz0 := S0.out.by_
    simp only [Q.Qm.cells] at RT S0 k0 k1 k2 k3 k4 k5 k6 k7 k8 k9 k10 ⊢
    replace RT := Lib.hid RT
    clear hq hr h1 h2 h3 h4
    go_enter Try.func10, Try.ntmps10
    go_wp2_with (first
      | (go_at_call 11; go_loud ((refine RT.out.mono ?_); (clear RT); (rintro e w1 ⟨rfl, b1⟩); (have S1 := S0.out.below b1 S0.out.lt); (obtain ⟨ka0, ka1, ka2, ka3, ka4, ka5, ka6, ka7, ka8, ka9, ka10⟩ := Q.hq_cells S1.hq); (have z0 := S1.by_); (have SI1 := Lib.hid S1); (clear b1 S1 k0 k1 k2 k3 k4 k5 k6 k7 k8 k9 k10 zz0)))
      | (go_at_call 13; go_loud ((refine (AWK.out _).mono ?_); (rintro e wE ⟨rfl, bE⟩); (have BE := Lib.hid (SI1.out.b.trans (bE.mono SI1.out.b.size))); (clear bE))))
    go_ret
    exact ⟨rfl, BE.out⟩
  rw [hr] at RT
  have hp := Q.chk_proper hc
  by_cases hM : 1030792151040 < q.clock
  · have gM : decide (1030792151040 < q.clock) = true := decide_eq_true hM
    obtain ⟨ck, rt, sp, ⟨⟨p0, p1, p2, p3, p4⟩, a0, c0, a1, c1⟩, be, en, it, ai, ci⟩ := q
    obtain ⟨k0, k1, k2, k3, k4, k5, k6, k7, k8, k9, k10⟩ := Q.hq_cells S0.out.hq
    have zz0 := S0.out.by_
    simp only [Q.Qm.cells] at gM RT S0 k0 k1 k2 k3 k4 k5 k6 k7 k8 k9 k10 ⊢
    replace RT := Lib.hid RT
    clear hq hr hs hc hp hM h1 h2 h3 h4
    go_enter Try.func10, Try.ntmps10
    go_wp2_with (first
      | (go_at_call 11; go_loud ((refine RT.out.mono ?_); (clear RT); (rintro e w1 ⟨rfl, b1⟩); (have S1 := S0.out.below b1 S0.out.lt); (obtain ⟨ka0, ka1, ka2, ka3, ka4, ka5, ka6, ka7, ka8, ka9, ka10⟩ := Q.hq_cells S1.hq); (have z0 := S1.by_); (have SI1 := Lib.hid S1); (clear b1 S1 k0 k1 k2 k3 k4 k5 k6 k7 k8 k9 k10 zz0)))
      | (go_at_call 13; go_loud ((refine (AWK.out _).mono ?_); (rintro e wE ⟨rfl, bE⟩); (have BE := Lib.hid (SI1.out.b.trans (bE.mono SI1.out.b.size))); (clear bE))))
    go_ret
    exact ⟨rfl, BE.out⟩
  have gM : decide (1030792151040 < q.clock) = false := decide_eq_false hM
  by_cases hE : 1099511627776 < q.en
  · have gE : decide (1099511627776 < q.en) = true := decide_eq_true hE
    obtain ⟨ck, rt, sp, ⟨⟨p0, p1, p2, p3, p4⟩, a0, c0, a1, c1⟩, be, en, it, ai, ci⟩ := q
    obtain ⟨k0, k1, k2, k3, k4, k5, k6, k7, k8, k9, k10⟩ := Q.hq_cells S0.out.hq
    have zz0 := S0.out.by_
    simp only [Q.Qm.cells] at gM gE RT S0 k0 k1 k2 k3 k4 k5 k6 k7 k8 k9 k10 ⊢
    replace RT := Lib.hid RT
    clear hq hr hs hc hp hM hE h1 h2 h3 h4
    go_enter Try.func10, Try.ntmps10
    go_wp2_with (first
      | (go_at_call 11; go_loud ((refine RT.out.mono ?_); (clear RT); (rintro e w1 ⟨rfl, b1⟩); (have S1 := S0.out.below b1 S0.out.lt); (obtain ⟨ka0, ka1, ka2, ka3, ka4, ka5, ka6, ka7, ka8, ka9, ka10⟩ := Q.hq_cells S1.hq); (have z0 := S1.by_); (have SI1 := Lib.hid S1); (clear b1 S1 k0 k1 k2 k3 k4 k5 k6 k7 k8 k9 k10 zz0)))
      | (go_at_call 13; go_loud ((refine (AWK.out _).mono ?_); (rintro e wE ⟨rfl, bE⟩); (have BE := Lib.hid (SI1.out.b.trans (bE.mono SI1.out.b.size))); (clear bE))))
    go_ret
    exact ⟨rfl, BE.out⟩
  have gE : decide (1099511627776 < q.en) = false := decide_eq_false hE
  have hl8 : q.items.length ≤ 8 := by have := hs.1; simpa [Q.Qm.a] using this
  have CK := Lib.hid hc
  have SM := Lib.hid hs
  have LEc : Hid (q.clock ≤ 1030792151040) := Lib.hid (by omega)
  have LEe : Hid (q.en ≤ 1099511627776) := Lib.hid (by omega)
  have LX : Hid (0 ≤ x1 ∧ x1 ≤ 4294967295 ∧ 0 ≤ x2 ∧ x2 ≤ 4294967295) := Lib.hid ⟨h1, h2, h3, h4⟩
  obtain ⟨ck, rt, sp, ⟨⟨p0, p1, p2, p3, p4⟩, a0, c0, a1, c1⟩, be, en, it, ai, ci⟩ := q
  obtain ⟨k0, k1, k2, k3, k4, k5, k6, k7, k8, k9, k10⟩ := Q.hq_cells S0.out.hq
  have zz0 := S0.out.by_
  simp only [Q.Qm.cells] at gM gE RT S0 k0 k1 k2 k3 k4 k5 k6 k7 k8 k9 k10 LEc LEe hl8 ⊢
  replace RT := Lib.hid RT
  clear hq hr hs hc hp hM hE h1 h2 h3 h4
  go_enter Try.func10, Try.ntmps10
  go_wp2_with (first
    | (go_at_call 11; go_loud ((refine RT.out.mono ?_); (clear RT); (rintro e w1 ⟨rfl, b1⟩); (have S1 := S0.out.below b1 S0.out.lt); (obtain ⟨ka0, ka1, ka2, ka3, ka4, ka5, ka6, ka7, ka8, ka9, ka10⟩ := Q.hq_cells S1.hq); (have z0 := S1.by_); (have SI1 := Lib.hid S1); (clear b1 S1 k0 k1 k2 k3 k4 k5 k6 k7 k8 k9 k10 zz0))))
  go_loopw [36] (fun v wr => ∃ k : Nat, k ≤ it.length ∧ v = .int .i64 k ∧ Hid (∀ m ∈ it.take k, m.u.af ≤ 1030792151040) ∧ Hid (Q.SI w wr x1 (⟨ck, rt, sp, ⟨⟨p0, p1, p2, p3, p4⟩, a0, c0, a1, c1⟩, be, en, it, ai, ci⟩ : Q.Qm))) (fun v _ => it.length - (intOf v).toNat)
  case atStart => exact ⟨0, Nat.zero_le _, rfl, Lib.hid (fun m hm => by simp at hm), SI1⟩
  case round =>
    obtain ⟨k, hk, rfl, hall, SR⟩ := hrel
    clear SI1 z0 ka0 ka1 ka2 ka3 ka4 ka5 ka6 ka7 ka8 ka9 ka10
    by_cases hlt : k < it.length
    · have hrow := SR.out.i.items.row
      obtain ⟨b, off, rfl, hbB, hcl⟩ := Q.reads_at hrow (Nat.lt_of_le_of_lt (Nat.zero_le k) hlt)
      obtain ⟨r0, r1, r2, r3, r4⟩ := hcl k hlt
      obtain ⟨ka0, ka1, ka2, ka3, ka4, ka5, ka6, ka7, ka8, ka9, ka10⟩ := Q.hq_cells SR.out.hq
      have q0 : decide ((k : Int) < (it.length : Int)) = true := decide_eq_true (by omega)
      have q1 : (0 : Int) ≤ (k : Int) := by omega
      have q2 : (k : Int) < (it.length : Int) := by omega
      have hk1 : k + 1 ≤ 8 := by omega
      obtain ⟨y, hy⟩ : ∃ y, it[k].u.af = y := ⟨_, rfl⟩
      rw [hy] at r3
      have HY := Lib.hid hy
      have HALL : Hid (y ≤ 1030792151040 → ∀ m ∈ it.take (k + 1), m.u.af ≤ 1030792151040) := Lib.hid (fun hy2 m hm => by
        rw [List.take_succ_eq_append_getElem hlt] at hm
        rcases List.mem_append.1 hm with hm | hm
        · exact hall.out m hm
        · rw [List.mem_singleton.1 hm, HY.out]; exact hy2)
      clear hrow hcl hy hall HY
      by_cases hyM : 1030792151040 < y
      · have gy : decide (1030792151040 < y) = true := decide_eq_true hyM
        clear hyM HALL
        go_wp2_with (first
          | (go_at_call 13; go_loud ((refine (AWK.out _).mono ?_); (rintro e wE ⟨rfl, bE⟩); (have BE := Lib.hid ((SR.out.b.trans ((below_box wr _).mono SR.out.b.size)).trans (bE.mono (Nat.le_trans SR.out.b.size (below_box wr _).size)))); (clear bE))))
        go_ret
        exact ⟨rfl, BE.out⟩
      · have gy : decide (1030792151040 < y) = false := decide_eq_false hyM
        have HA2 := Lib.hid (HALL.out (by omega))
        clear hyM HALL
        go_wp2_with fail
        go_roundw
        case rel => exact ⟨k + 1, by omega, by go_num, HA2, Lib.hid (SR.out.below (below_box wr _) SR.out.lt)⟩
        case measure => simp [intOf] <;> omega
    · have q0 : decide ((k : Int) < (it.length : Int)) = false := decide_eq_false (by omega)
      have HALL : Hid (∀ m ∈ it, m.u.af ≤ 1030792151040) := Lib.hid (fun m hm => hall.out m (by rw [List.take_of_length_le (by omega)]; exact hm))
      obtain ⟨ka0, ka1, ka2, ka3, ka4, ka5, ka6, ka7, ka8, ka9, ka10⟩ := Q.hq_cells SR.out.hq
      have z0 := SR.out.by_
      clear hall
      obtain ⟨s1, hs1⟩ : ∃ s1, ck + x1 = s1 := ⟨_, rfl⟩
      obtain ⟨t2, ht2⟩ : ∃ t2, ck + x2 = t2 := ⟨_, rfl⟩
      have hckp := (Q.chk_proper CK.out).ck
      simp only [Q.Qm.a] at hckp
      have w1_ : IntKind.i64.wrap x1 = x1 := by have := LX.out; simp [IntKind.wrap, IntKind.bits, IntKind.signed]; omega
      have w2_ : IntKind.i64.wrap x2 = x2 := by have := LX.out; simp [IntKind.wrap, IntKind.bits, IntKind.signed]; omega
      have w3_ : IntKind.i64.wrap (ck + x1) = s1 := by have := LX.out; have := LEc.out; simp [IntKind.wrap, IntKind.bits, IntKind.signed]; omega
      have w4_ : IntKind.i64.wrap (ck + x2) = t2 := by have := LX.out; have := LEc.out; simp [IntKind.wrap, IntKind.bits, IntKind.signed]; omega
      have w5_ : IntKind.i64.wrap (t2 + x1) = t2 + x1 := by have := LX.out; have := LEc.out; simp [IntKind.wrap, IntKind.bits, IntKind.signed]; omega
      have MV := Lib.hid (fun (W : World) (h : Q.UsIn W W.heap.size ai it) (hb : W.cell? ⟨w.heap.size + 1, 0, none⟩ = some (.int .u32 x1)) (hl : w.heap.size + 1 < W.heap.size) => move_any it ai ci (w.heap.size + 1) x1 W h (by omega) ⟨LX.out.1, LX.out.2.1⟩ (fun m hm => by have := HALL.out m hm; have := Q.pr_af (Q.prs_mem (Q.chk_proper CK.out).its (List.mem_map.2 ⟨m, hm, rfl⟩)); omega) hb hl)
      have TT : Hid (ck ≤ t2 ∧ t2 ≤ 1099511627776) := Lib.hid (by have := LX.out; have := LEc.out; omega)
      have HS1 := Lib.hid hs1
      have HT2 := Lib.hid ht2
      have hX := Q.advR_ok (a := (⟨ck, rt, sp, ⟨⟨p0, p1, p2, p3, p4⟩, a0, c0, a1, c1⟩, be, en, it, ai, ci⟩ : Q.Qm).a) (time := t2) hckp.1 TT.out.1 TT.out.2
      have MVA : Hid (((⟨ck, rt, sp, ⟨⟨p0, p1, p2, p3, p4⟩, a0, c0, a1, c1⟩, be, en, it, ai, ci⟩ : Q.Qm).a.mv x1).advR (t2 + x1) = (((⟨ck, rt, sp, ⟨⟨p0, p1, p2, p3, p4⟩, a0, c0, a1, c1⟩, be, en, it, ai, ci⟩ : Q.Qm).a.adv t2).1.mv x1, ((⟨ck, rt, sp, ⟨⟨p0, p1, p2, p3, p4⟩, a0, c0, a1, c1⟩, be, en, it, ai, ci⟩ : Q.Qm).a.adv t2).2.map (·.mv x1), 0)) := Lib.hid (by
        rw [Q.advR_ok (by have := LX.out; have := hckp.1; simp only [Q.Qa.mv, Q.Qm.a]; omega) (by have := TT.out; simp only [Q.Qa.mv, Q.Qm.a]; omega) (by have := LX.out; have := LEc.out; have := HT2.out; omega), Q.mv_adv])
      have MVC : Hid (Q.chk ((⟨ck, rt, sp, ⟨⟨p0, p1, p2, p3, p4⟩, a0, c0, a1, c1⟩, be, en, it, ai, ci⟩ : Q.Qm).a.mv x1) = 0) := Lib.hid (Q.mv_chk CK.out LX.out.1 (by have := LX.out; have := LEc.out; simp only [Q.Qm.a]; omega) (by have := LX.out; have := LEe.out; simp only [Q.Qm.a]; omega) (fun u hu => by
        obtain ⟨m, hm, rfl⟩ := List.mem_map.1 hu
        have := HALL.out m hm; have := LX.out; omega))
      have AD1 := fun (W : World) (h : Q.QIn W W.heap.size (⟨ck, rt, sp, ⟨⟨p0, p1, p2, p3, p4⟩, a0, c0, a1, c1⟩, be, en, it, ai, ci⟩ : Q.Qm)) => Q.advance_hq t2 h SM.out CK.out
      rw [hX] at AD1
      have XC := Lib.hid (Q.adv_chk (time := t2) CK.out SM.out TT.out.1 TT.out.2)
      have XS := Lib.hid (Q.adv_sml' (time := t2) SM.out)
      have XL := Lib.hid (Q.adv_say_len (time := t2) SM.out)
      have XB := Lib.hid (Q.adv_bounds CK.out t2)
      have XK : Hid (((⟨ck, rt, sp, ⟨⟨p0, p1, p2, p3, p4⟩, a0, c0, a1, c1⟩, be, en, it, ai, ci⟩ : Q.Qm).a.adv t2).1.clock = t2) := Lib.hid (Q.toQ_clock _ _ _)
      obtain ⟨X1, hX1⟩ : ∃ X, ((⟨ck, rt, sp, ⟨⟨p0, p1, p2, p3, p4⟩, a0, c0, a1, c1⟩, be, en, it, ai, ci⟩ : Q.Qm).a.adv t2).1 = X := ⟨_, rfl⟩
      obtain ⟨X2, hX2⟩ : ∃ X, ((⟨ck, rt, sp, ⟨⟨p0, p1, p2, p3, p4⟩, a0, c0, a1, c1⟩, be, en, it, ai, ci⟩ : Q.Qm).a.adv t2).2 = X := ⟨_, rfl⟩
      simp only [hX1, hX2] at AD1 MVA XC XS XL XB XK
      simp only [Q.Qm.cells] at AD1
      replace AD1 := Lib.hid AD1
      clear hs1 ht2 hckp hX hX1 hX2
      cases sp with
      | false =>
        have zA := (SR.out.below (below_box wr (.cells #[.int .i64 ck, .int .i64 rt, .bool false, .slice a0 p0.length c0, .slice a1 p1.length c1, .int .i64 p2, .int .i64 p3, .int .i64 p4, .int .i64 be, .int .i64 en, .slice ai it.length ci] 28)) SR.out.lt).by_
        have sB := SR.out.below (below_box wr (.cells #[.int .i64 s1, .int .i64 rt, .bool false, .slice a0 p0.length c0, .slice a1 p1.length c1, .int .i64 p2, .int .i64 p3, .int .i64 p4, .int .i64 be, .int .i64 en, .slice ai it.length ci] 28)) SR.out.lt
        obtain ⟨kb0, kb1, kb2, kb3, kb4, kb5, kb6, kb7, kb8, kb9, kb10⟩ := Q.hq_cells sB.hq
        have zB := sB.by_
        clear sB
        go_wp2_with (first
          | (go_at_call 32; go_loud ((have sx := SR.out.below (below_box wr (.cells #[.int .i64 s1, .int .i64 rt, .bool false, .slice a0 p0.length c0, .slice a1 p1.length c1, .int .i64 p2, .int .i64 p3, .int .i64 p4, .int .i64 be, .int .i64 en, .slice ai it.length ci] 28)) SR.out.lt); (refine (MV.out _ (sx.i.items.more (by have := sx.lt; omega)) sx.by_ (by have := sx.lt; omega)).mono ?_); (rintro e w4 ⟨A4, c4, rfl, hc4, own4, b4⟩); (have S4 := sx.below b4 sx.lt); (have V4 := (b4.block wr.heap.size (by simp)).trans (heap_alloc_new wr (.cells #[.int .i64 s1, .int .i64 rt, .bool false, .slice a0 p0.length c0, .slice a1 p1.length c1, .int .i64 p2, .int .i64 p3, .int .i64 p4, .int .i64 be, .int .i64 en, .slice ai it.length ci] 28))); (have y10 := cell_of_block_ (i := 10) V4); (have f10 := unfrozen_of_block V4 10); (simp at y10); (have V5 := block_setCell (i := 10) V4 (.slice A4 it.length c4)); (simp at V5); (obtain ⟨im, him⟩ : ∃ im, it.map (fun x => Q.Um.mv x x1) = im := ⟨_, rfl⟩); (have hil : it.length = im.length := by rw [← him, List.length_map]); (have hg5 : w4.grownBy (w4.setCell ⟨wr.heap.size, 10, none⟩ (.slice A4 it.length c4)) (some wr.heap.size) := only_setCell (World.grownBy.refl w4 (some wr.heap.size)) (.inl rfl) _); (have own5 := own_far own4 V4 (by decide) hg5); (have hs4 : wr.heap.size + 1 ≤ w4.heap.size := by have := b4.size; simpa using this); (have hb5 := below_of_only hg5 (Nat.le_refl _) (by omega)); (have S5 := S4.below hb5 SR.out.lt); (obtain ⟨w5, hw5⟩ : ∃ w5, w4.setCell ⟨wr.heap.size, 10, none⟩ (.slice A4 it.length c4) = w5 := ⟨_, rfl⟩); (rw [hw5] at V5 S5 own5 hb5 hg5); (have HIL := Lib.hid hil); (have HIM := Lib.hid him); (rw [hil] at V5); (clear hil him); (have s5 : wr.heap.size + 1 ≤ w5.heap.size := Nat.le_trans hs4 hb5.size); (obtain ⟨k0, k1, k2, k3, k4, k5, k6, k7, k8, k9, k10⟩ := Q.hq_cells S5.hq); (have zz5 := S5.by_); (have m0 := cell_of_block_ (i := 0) V5); (have m1 := cell_of_block_ (i := 1) V5); (have m2 := cell_of_block_ (i := 2) V5); (have m3 := cell_of_block_ (i := 3) V5); (have m4 := cell_of_block_ (i := 4) V5); (have m5 := cell_of_block_ (i := 5) V5); (have m6 := cell_of_block_ (i := 6) V5); (have m7 := cell_of_block_ (i := 7) V5); (have m8 := cell_of_block_ (i := 8) V5); (have m9 := cell_of_block_ (i := 9) V5); (have m10 := cell_of_block_ (i := 10) V5); (simp at m0 m1 m2 m3 m4 m5 m6 m7 m8 m9 m10); (have V5h := Lib.hid V5); (have SI5 := Lib.hid S5); (have OW5 := Lib.hid (own_lower own5 (show wr.heap.size ≤ _ by simp))); (have s5h := Lib.hid s5); (have hc4h := Lib.hid hc4); (clear zA zB sx b4 own4 V4 S4 V5 hg5 own5 hs4 hb5 S5 s5 z0 hc4 ka0 ka1 ka2 ka3 ka4 ka5 ka6 ka7 ka8 ka9 ka10 kb0 kb1 kb2 kb3 kb4 kb5 kb6 kb7 kb8 kb9 kb10))))
        obtain ⟨w6, hw6⟩ : ∃ w6, w5 = w6 := ⟨_, rfl⟩
        have HM : Hid (Q.HQ w6 wr.heap.size (⟨s1, rt, false, ⟨⟨p0, p1, p2, p3, p4⟩, a0, c0, a1, c1⟩, be, en, im, A4, c4⟩ : Q.Qm)) := Lib.hid (by rw [← hw6]; exact ⟨V5h.out, SI5.out.i.cur.more (by have := SI5.out.lt; omega), by rw [← HIM.out]; exact Q.us_mv OW5.out (fun m hm => (SI5.out.i.items.el m hm).more (by have := SI5.out.lt; omega)), by rw [← HIM.out]; simpa using hc4h.out⟩)
        have HMA : Hid ((⟨s1, rt, false, ⟨⟨p0, p1, p2, p3, p4⟩, a0, c0, a1, c1⟩, be, en, im, A4, c4⟩ : Q.Qm).a = Q.Qa.mv (⟨ck, rt, false, ⟨⟨p0, p1, p2, p3, p4⟩, a0, c0, a1, c1⟩, be, en, it, ai, ci⟩ : Q.Qm).a x1) := Lib.hid (by rw [← HIM.out, ← HS1.out]; simp only [Q.Qm.a, Q.Qa.mv, Bool.false_eq_true, if_false, List.map_map]; rfl)
        rw [hw6] at SI5 k0 m0 k1 m1 k2 m2 k3 m3 k4 m4 k5 m5 k6 m6 k7 m7 k8 m8 k9 m9 k10 m10 zz5 ⊢
        clear V5h OW5 s5h hw6 hc4h
        have SI6 := SI5
        clear SI5
        have AD2 := Lib.hid (fun (W : World) (h : Q.QIn W W.heap.size (⟨s1, rt, false, ⟨⟨p0, p1, p2, p3, p4⟩, a0, c0, a1, c1⟩, be, en, im, A4, c4⟩ : Q.Qm)) => Q.advance_hq (t2 + x1) h (by rw [HMA.out]; exact Q.mv_sml SM.out x1) (by rw [HMA.out]; exact MVC.out))
        rw [HMA.out, MVA.out] at AD2
        simp only [Q.Qm.cells] at AD2
        clear HMA MVA MVC
        go_wp2_with (first
          | (go_at_call 24; go_loud ((refine (AD1.out _ SI6.out.hq.i).mono ?_); (rintro e w7 ⟨⟨ck5, rt5, sp5, ⟨⟨p05, p15, p25, p35, p45⟩, a05, c05, a15, c15⟩, be5, en5, it5, ai5, ci5⟩, A5, d5, ss5, rfl, e5, es5, i5, r5, hd5, bb⟩); (simp only at e5 es5); (have bx := below_box w7 (.cells #[.int .i64 ck5, .int .i64 rt5, .bool sp5, .slice a05 p05.length c05, .slice a15 p15.length c15, .int .i64 p25, .int .i64 p35, .int .i64 p45, .int .i64 be5, .int .i64 en5, .slice ai5 it5.length ci5] 28)); (have sa := (SI6.out.below bb SI6.out.lt).below bx (Nat.le_trans SI6.out.lt bb.size)); (obtain ⟨ka0, ka1, ka2, ka3, ka4, ka5, ka6, ka7, ka8, ka9, ka10⟩ := Q.hq_cells sa.hq); (have za := sa.by_); (have hm := (HM.out.below bb).below bx); (obtain ⟨kb0, kb1, kb2, kb3, kb4, kb5, kb6, kb7, kb8, kb9, kb10⟩ := Q.hq_cells hm); (have SI7 := Lib.hid sa); (have HM7 := Lib.hid hm); (clear sa hm SI6 HM AD1 zz5 k0 k1 k2 k3 k4 k5 k6 k7 k8 k9 k10 m0 m1 m2 m3 m4 m5 m6 m7 m8 m9 m10); (have H5 := Lib.hid (Q.HQ.new (W := w7) (C := #[.int .i64 ck5, .int .i64 rt5, .bool sp5, .slice a05 p05.length c05, .slice a15 p15.length c15, .int .i64 p25, .int .i64 p35, .int .i64 p45, .int .i64 be5, .int .i64 en5, .slice ai5 it5.length ci5]) (q := (⟨ck5, rt5, sp5, ⟨⟨p05, p15, p25, p35, p45⟩, a05, c05, a15, c15⟩, be5, en5, it5, ai5, ci5⟩ : Q.Qm)) rfl i5)); (have R5 := Lib.hid (r5.on bx)); (have E5 := Lib.hid e5); (have ES5 := Lib.hid es5); (simp only [Q.Qm.cells]); (clear bb bx i5 r5 e5 es5 hd5)))
          | (go_at_call 24; go_loud ((refine (AD2.out _ HM7.out.i).mono ?_); (rintro e w8 ⟨⟨ck8, rt8, sp8, ⟨⟨p08, p18, p28, p38, p48⟩, a08, c08, a18, c18⟩, be8, en8, it8, ai8, ci8⟩, A8, d8, ss8, rfl, e8, es8, i8, r8, hd8, bb⟩); (simp only at e8 es8); (have bx := below_box w8 (.cells #[.int .i64 ck8, .int .i64 rt8, .bool sp8, .slice a08 p08.length c08, .slice a18 p18.length c18, .int .i64 p28, .int .i64 p38, .int .i64 p48, .int .i64 be8, .int .i64 en8, .slice ai8 it8.length ci8] 28)); (have sa := (SI7.out.below bb SI7.out.lt).below bx (Nat.le_trans SI7.out.lt bb.size)); (have hm := (H5.out.below bb).below bx); (have SI8 := Lib.hid sa); (have H5b := Lib.hid hm); (have R5b := Lib.hid ((R5.out.on bb).on bx)); (clear sa hm SI7 H5 HM7 R5 AD2 za ka0 ka1 ka2 ka3 ka4 ka5 ka6 ka7 ka8 ka9 ka10 kb0 kb1 kb2 kb3 kb4 kb5 kb6 kb7 kb8 kb9 kb10); (have H8 := Lib.hid (Q.HQ.new (W := w8) (C := #[.int .i64 ck8, .int .i64 rt8, .bool sp8, .slice a08 p08.length c08, .slice a18 p18.length c18, .int .i64 p28, .int .i64 p38, .int .i64 p48, .int .i64 be8, .int .i64 en8, .slice ai8 it8.length ci8]) (q := (⟨ck8, rt8, sp8, ⟨⟨p08, p18, p28, p38, p48⟩, a08, c08, a18, c18⟩, be8, en8, it8, ai8, ci8⟩ : Q.Qm)) rfl i8)); (have R8 := Lib.hid (r8.on bx)); (have E8 := Lib.hid e8); (have ES8 := Lib.hid es8); (simp only [Q.Qm.cells]); (clear bb bx i8 r8 e8 es8 hd8))))
        obtain ⟨W9, hW9⟩ : ∃ W, w8.alloc (.cells #[.int .i64 ck8, .int .i64 rt8, .bool sp8, .slice a08 p08.length c08, .slice a18 p18.length c18, .int .i64 p28, .int .i64 p38, .int .i64 p48, .int .i64 be8, .int .i64 en8, .slice ai8 it8.length ci8] 28) = W := ⟨_, rfl⟩
        rw [hW9] at SI8 H8 H5b R5b R8 ⊢
        clear hW9
        have e8 := E8.out
        rw [← E5.out] at e8
        simp only [Q.Qm.a, Q.Qa.mv, Q.Qa.mk.injEq] at e8
        obtain ⟨ex1, ex2, ex3, ex4, ex5, ex6, ex7⟩ := e8
        have hk5 : ck5 = t2 := by have := XK.out; rw [← E5.out] at this; exact this
        have gw : IntKind.i64.wrap (ck5 + x1) = ck8 := by rw [hk5, w5_, ex1, hk5]
        have hl5 := congrArg List.length ES5.out
        have hl8b := congrArg List.length ES8.out
        rw [List.length_map] at hl5 hl8b
        rw [List.length_map] at hl8b
        have hls : ss8.length = ss5.length := hl8b.trans hl5.symm
        have gl : ((ss5.length : Int) != (ss8.length : Int)) = false := by rw [hls]; simp
        have HLS := Lib.hid hls
        have l9 : ss5.length ≤ 9 := by have := XL.out; omega
        have i5 : it5.length ≤ 8 := by have := XS.out.1; rw [← E5.out] at this; simpa [Q.Qm.a] using this
        have IT := Lib.hid ex7
        have CX := Lib.hid (Q.chk_proper XC.out)
        rw [← E5.out] at CX
        have SX := XS
        rw [← E5.out] at SX
        have MV2 := Lib.hid (fun (W : World) (h : Q.UsIn W W.heap.size ai5 it5) (hb : W.cell? ⟨w.heap.size + 1, 0, none⟩ = some (.int .u32 x1)) (hl : w.heap.size + 1 < W.heap.size) => move_any it5 ai5 ci5 (w.heap.size + 1) x1 W h (by omega) ⟨LX.out.1, LX.out.2.1⟩ (fun m hm => by have := Q.pr_af (Q.prs_mem CX.out.its (List.mem_map.2 ⟨m, hm, rfl⟩)); omega) hb hl)
        have CELL : Hid (∀ W : World, Below W9.heap.size W9 W → ((W.cell? ⟨w7.heap.size, 0, none⟩ = some (.int .i64 ck5) ∧ W.cell? ⟨w7.heap.size, 1, none⟩ = some (.int .i64 rt5) ∧ W.cell? ⟨w7.heap.size, 2, none⟩ = some (.bool sp5) ∧ W.cell? ⟨w7.heap.size, 3, none⟩ = some (.slice a05 p05.length c05) ∧ W.cell? ⟨w7.heap.size, 4, none⟩ = some (.slice a15 p15.length c15) ∧ W.cell? ⟨w7.heap.size, 5, none⟩ = some (.int .i64 p25) ∧ W.cell? ⟨w7.heap.size, 6, none⟩ = some (.int .i64 p35) ∧ W.cell? ⟨w7.heap.size, 7, none⟩ = some (.int .i64 p45) ∧ W.cell? ⟨w7.heap.size, 8, none⟩ = some (.int .i64 be5) ∧ W.cell? ⟨w7.heap.size, 9, none⟩ = some (.int .i64 en5) ∧ W.cell? ⟨w7.heap.size, 10, none⟩ = some (.slice ai5 it5.length ci5)) ∧ (W.cell? ⟨w8.heap.size, 0, none⟩ = some (.int .i64 ck8) ∧ W.cell? ⟨w8.heap.size, 1, none⟩ = some (.int .i64 rt8) ∧ W.cell? ⟨w8.heap.size, 2, none⟩ = some (.bool sp8) ∧ W.cell? ⟨w8.heap.size, 3, none⟩ = some (.slice a08 p08.length c08) ∧ W.cell? ⟨w8.heap.size, 4, none⟩ = some (.slice a18 p18.length c18) ∧ W.cell? ⟨w8.heap.size, 5, none⟩ = some (.int .i64 p28) ∧ W.cell? ⟨w8.heap.size, 6, none⟩ = some (.int .i64 p38) ∧ W.cell? ⟨w8.heap.size, 7, none⟩ = some (.int .i64 p48) ∧ W.cell? ⟨w8.heap.size, 8, none⟩ = some (.int .i64 be8) ∧ W.cell? ⟨w8.heap.size, 9, none⟩ = some (.int .i64 en8) ∧ W.cell? ⟨w8.heap.size, 10, none⟩ = some (.slice ai8 it8.length ci8)) ∧ W.cell? ⟨w.heap.size + 1, 0, none⟩ = some (.int .u32 x1))) := Lib.hid (fun W hb => ⟨Q.hq_cells (H5b.out.below hb), Q.hq_cells (H8.out.below hb), (SI8.out.below hb SI8.out.lt).by_⟩)
        clear hl5 hl8b hls hk5 ex1 ex2 ex4 ex5 ex7
        cases sp5 with
        | false =>
          obtain rfl : sp8 = false := ex3
          clear ex6
          refine wp_normal ?_
          refine wp_region_held_drew (S := fun w' => (w'.cell? ⟨w7.heap.size, 0, none⟩ = some (.int .i64 ck5) ∧ w'.cell? ⟨w7.heap.size, 1, none⟩ = some (.int .i64 rt5) ∧ w'.cell? ⟨w7.heap.size, 2, none⟩ = some (.bool false) ∧ w'.cell? ⟨w7.heap.size, 3, none⟩ = some (.slice a05 p05.length c05) ∧ w'.cell? ⟨w7.heap.size, 4, none⟩ = some (.slice a15 p15.length c15) ∧ w'.cell? ⟨w7.heap.size, 5, none⟩ = some (.int .i64 p25) ∧ w'.cell? ⟨w7.heap.size, 6, none⟩ = some (.int .i64 p35) ∧ w'.cell? ⟨w7.heap.size, 7, none⟩ = some (.int .i64 p45) ∧ w'.cell? ⟨w7.heap.size, 8, none⟩ = some (.int .i64 be5) ∧ w'.cell? ⟨w7.heap.size, 9, none⟩ = some (.int .i64 en5) ∧ w'.cell? ⟨w7.heap.size, 10, none⟩ = some (.slice ai5 it5.length ci5)) ∧ (w'.cell? ⟨w8.heap.size, 0, none⟩ = some (.int .i64 ck8) ∧ w'.cell? ⟨w8.heap.size, 1, none⟩ = some (.int .i64 rt8) ∧ w'.cell? ⟨w8.heap.size, 2, none⟩ = some (.bool false) ∧ w'.cell? ⟨w8.heap.size, 3, none⟩ = some (.slice a08 p08.length c08) ∧ w'.cell? ⟨w8.heap.size, 4, none⟩ = some (.slice a18 p18.length c18) ∧ w'.cell? ⟨w8.heap.size, 5, none⟩ = some (.int .i64 p28) ∧ w'.cell? ⟨w8.heap.size, 6, none⟩ = some (.int .i64 p38) ∧ w'.cell? ⟨w8.heap.size, 7, none⟩ = some (.int .i64 p48) ∧ w'.cell? ⟨w8.heap.size, 8, none⟩ = some (.int .i64 be8) ∧ w'.cell? ⟨w8.heap.size, 9, none⟩ = some (.int .i64 en8) ∧ w'.cell? ⟨w8.heap.size, 10, none⟩ = some (.slice ai8 it8.length ci8)) ∧ w'.cell? ⟨w.heap.size + 1, 0, none⟩ = some (.int .u32 x1)) (by kernel_rfl) (CELL.out _ (Below.refl _ W9).drew) (fun hHeld => ?_)
          obtain ⟨wd, hwd⟩ : ∃ wd, W9.drew = wd := ⟨_, rfl⟩
          have bd : Below W9.heap.size W9 wd := by rw [← hwd]; exact (Below.refl _ W9).drew
          rw [hwd] at hHeld ⊢
          clear hwd
          refine tk 0 rfl (by kernel_rfl) hHeld (fun _ _ _ h => h) (v := ?_) ?_ ?_
          rotate_left 1
          · (intro w hSw; (try dsimp only at hSw); (try simp only [List.getElem_toArray, List.getElem_cons_succ, List.getElem_cons_zero]); go_simp) <;> (with_reducible rfl)
          try simp only [List.getElem_toArray, List.getElem_cons_succ, List.getElem_cons_zero, Act.put, List.setIfInBounds_toArray, List.set_cons_zero, List.set_cons_succ]
          refine tk 1 rfl (by kernel_rfl) hHeld (fun _ _ _ h => h) (v := ?_) ?_ ?_
          rotate_left 1
          · (intro w hSw; (try dsimp only at hSw); (try simp only [List.getElem_toArray, List.getElem_cons_succ, List.getElem_cons_zero]); go_simp) <;> (with_reducible rfl)
          try simp only [List.getElem_toArray, List.getElem_cons_succ, List.getElem_cons_zero, Act.put, List.setIfInBounds_toArray, List.set_cons_zero, List.set_cons_succ]
          refine tk 2 rfl (by kernel_rfl) hHeld (fun _ _ _ h => h) (v := ?_) ?_ ?_
          rotate_left 1
          · (intro w hSw; (try dsimp only at hSw); (try simp only [List.getElem_toArray, List.getElem_cons_succ, List.getElem_cons_zero]); go_simp) <;> (with_reducible rfl)
          try simp only [List.getElem_toArray, List.getElem_cons_succ, List.getElem_cons_zero, Act.put, List.setIfInBounds_toArray, List.set_cons_zero, List.set_cons_succ]
          refine tk 3 rfl (by kernel_rfl) hHeld (fun _ _ _ h => h) (v := ?_) ?_ ?_
          rotate_left 1
          · (intro w hSw; (try dsimp only at hSw); (try simp only [List.getElem_toArray, List.getElem_cons_succ, List.getElem_cons_zero]); go_simp) <;> (with_reducible rfl)
          try simp only [List.getElem_toArray, List.getElem_cons_succ, List.getElem_cons_zero, Act.put, List.setIfInBounds_toArray, List.set_cons_zero, List.set_cons_succ]
          refine tk 4 rfl (by kernel_rfl) hHeld (fun _ _ _ h => h) (v := ?_) ?_ ?_
          rotate_left 1
          · (intro w hSw; (try dsimp only at hSw); (try simp only [List.getElem_toArray, List.getElem_cons_succ, List.getElem_cons_zero]); go_simp) <;> (with_reducible rfl)
          try simp only [List.getElem_toArray, List.getElem_cons_succ, List.getElem_cons_zero, Act.put, List.setIfInBounds_toArray, List.set_cons_zero, List.set_cons_succ]
          refine tk 5 rfl (by kernel_rfl) hHeld (fun _ _ _ h => h) (v := ?_) ?_ ?_
          rotate_left 1
          · (intro w hSw; (try dsimp only at hSw); (try simp only [List.getElem_toArray, List.getElem_cons_succ, List.getElem_cons_zero]); go_simp) <;> (with_reducible rfl)
          try simp only [List.getElem_toArray, List.getElem_cons_succ, List.getElem_cons_zero, Act.put, List.setIfInBounds_toArray, List.set_cons_zero, List.set_cons_succ]
          refine tk 6 rfl (by kernel_rfl) hHeld (fun _ _ _ h => h) (v := ?_) ?_ ?_
          rotate_left 1
          · (intro w hSw; (try dsimp only at hSw); (try simp only [List.getElem_toArray, List.getElem_cons_succ, List.getElem_cons_zero]); go_simp) <;> (with_reducible rfl)
          try simp only [List.getElem_toArray, List.getElem_cons_succ, List.getElem_cons_zero, Act.put, List.setIfInBounds_toArray, List.set_cons_zero, List.set_cons_succ]
          refine tk 7 rfl (by kernel_rfl) hHeld (fun _ _ _ h => h) (v := ?_) ?_ ?_
          rotate_left 1
          · (intro w hSw; (try dsimp only at hSw); (try simp only [List.getElem_toArray, List.getElem_cons_succ, List.getElem_cons_zero]); go_simp) <;> (with_reducible rfl)
          try simp only [List.getElem_toArray, List.getElem_cons_succ, List.getElem_cons_zero, Act.put, List.setIfInBounds_toArray, List.set_cons_zero, List.set_cons_succ]
          refine tk 8 rfl (by kernel_rfl) hHeld (fun _ _ _ h => h) (v := ?_) ?_ ?_
          rotate_left 1
          · (intro w hSw; (try dsimp only at hSw); (try simp only [List.getElem_toArray, List.getElem_cons_succ, List.getElem_cons_zero]); go_simp) <;> (with_reducible rfl)
          try simp only [List.getElem_toArray, List.getElem_cons_succ, List.getElem_cons_zero, Act.put, List.setIfInBounds_toArray, List.set_cons_zero, List.set_cons_succ]
          refine tk 9 rfl (by kernel_rfl) hHeld (fun _ _ _ h => h) (v := ?_) ?_ ?_
          rotate_left 1
          · (intro w hSw; (try dsimp only at hSw); (try simp only [List.getElem_toArray, List.getElem_cons_succ, List.getElem_cons_zero]); go_simp) <;> (with_reducible rfl)
          try simp only [List.getElem_toArray, List.getElem_cons_succ, List.getElem_cons_zero, Act.put, List.setIfInBounds_toArray, List.set_cons_zero, List.set_cons_succ]
          refine tk 10 rfl (by kernel_rfl) hHeld (fun _ _ _ h => h) (v := ?_) ?_ ?_
          rotate_left 1
          · (intro w hSw; (try dsimp only at hSw); (try simp only [List.getElem_toArray, List.getElem_cons_succ, List.getElem_cons_zero]); go_simp) <;> (with_reducible rfl)
          try simp only [List.getElem_toArray, List.getElem_cons_succ, List.getElem_cons_zero, Act.put, List.setIfInBounds_toArray, List.set_cons_zero, List.set_cons_succ]
          refine tk 11 rfl (by kernel_rfl) hHeld (fun _ _ _ h => h) (v := ?_) ?_ ?_
          rotate_left 1
          · (intro w hSw; (try dsimp only at hSw); (try simp only [List.getElem_toArray, List.getElem_cons_succ, List.getElem_cons_zero]); go_simp) <;> (with_reducible rfl)
          try simp only [List.getElem_toArray, List.getElem_cons_succ, List.getElem_cons_zero, Act.put, List.setIfInBounds_toArray, List.set_cons_zero, List.set_cons_succ]
          refine tk 12 rfl (by kernel_rfl) hHeld (fun _ _ _ h => h) (v := ?_) ?_ ?_
          rotate_left 1
          · (intro w hSw; (try dsimp only at hSw); (try simp only [List.getElem_toArray, List.getElem_cons_succ, List.getElem_cons_zero]); go_simp) <;> (with_reducible rfl)
          try simp only [List.getElem_toArray, List.getElem_cons_succ, List.getElem_cons_zero, Act.put, List.setIfInBounds_toArray, List.set_cons_zero, List.set_cons_succ]
          refine tk 13 rfl (by kernel_rfl) hHeld (fun _ _ _ h => h) (v := ?_) ?_ ?_
          rotate_left 1
          · (intro w hSw; (try dsimp only at hSw); (try simp only [List.getElem_toArray, List.getElem_cons_succ, List.getElem_cons_zero]); go_simp) <;> (with_reducible rfl)
          try simp only [List.getElem_toArray, List.getElem_cons_succ, List.getElem_cons_zero, Act.put, List.setIfInBounds_toArray, List.set_cons_zero, List.set_cons_succ]
          refine tk 14 rfl (by kernel_rfl) hHeld (fun _ _ _ h => h) (v := ?_) ?_ ?_
          rotate_left 1
          · (intro w hSw; (try dsimp only at hSw); (try simp only [List.getElem_toArray, List.getElem_cons_succ, List.getElem_cons_zero]); go_simp) <;> (with_reducible rfl)
          try simp only [List.getElem_toArray, List.getElem_cons_succ, List.getElem_cons_zero, Act.put, List.setIfInBounds_toArray, List.set_cons_zero, List.set_cons_succ]
          refine tk 15 rfl (by kernel_rfl) hHeld (fun _ _ _ h => h) (v := ?_) ?_ ?_
          rotate_left 1
          · (intro w hSw; (try dsimp only at hSw); (try simp only [List.getElem_toArray, List.getElem_cons_succ, List.getElem_cons_zero]); go_simp) <;> (with_reducible rfl)
          try simp only [List.getElem_toArray, List.getElem_cons_succ, List.getElem_cons_zero, Act.put, List.setIfInBounds_toArray, List.set_cons_zero, List.set_cons_succ]
          refine tk 16 rfl (by kernel_rfl) hHeld (fun _ _ _ h => h) (v := ?_) ?_ ?_
          rotate_left 1
          · (intro w hSw; (try dsimp only at hSw); (try simp only [List.getElem_toArray, List.getElem_cons_succ, List.getElem_cons_zero]); go_simp) <;> (with_reducible rfl)
          try simp only [List.getElem_toArray, List.getElem_cons_succ, List.getElem_cons_zero, Act.put, List.setIfInBounds_toArray, List.set_cons_zero, List.set_cons_succ]
          refine tk 17 rfl (by kernel_rfl) hHeld (fun _ _ _ h => h) (v := ?_) ?_ ?_
          rotate_left 1
          · (intro w hSw; (try dsimp only at hSw); (try simp only [List.getElem_toArray, List.getElem_cons_succ, List.getElem_cons_zero]); go_simp) <;> (with_reducible rfl)
          try simp only [List.getElem_toArray, List.getElem_cons_succ, List.getElem_cons_zero, Act.put, List.setIfInBounds_toArray, List.set_cons_zero, List.set_cons_succ]
          refine tk 18 rfl (by kernel_rfl) hHeld (fun _ _ _ h => h) (v := ?_) ?_ ?_
          rotate_left 1
          · (intro w hSw; (try dsimp only at hSw); (try simp only [List.getElem_toArray, List.getElem_cons_succ, List.getElem_cons_zero]); go_simp) <;> (with_reducible rfl)
          try simp only [List.getElem_toArray, List.getElem_cons_succ, List.getElem_cons_zero, Act.put, List.setIfInBounds_toArray, List.set_cons_zero, List.set_cons_succ]
          refine tk 19 rfl (by kernel_rfl) hHeld (fun _ _ _ h => h) (v := ?_) ?_ ?_
          rotate_left 1
          · (intro w hSw; (try dsimp only at hSw); (try simp only [List.getElem_toArray, List.getElem_cons_succ, List.getElem_cons_zero]); go_simp) <;> (with_reducible rfl)
          try simp only [List.getElem_toArray, List.getElem_cons_succ, List.getElem_cons_zero, Act.put, List.setIfInBounds_toArray, List.set_cons_zero, List.set_cons_succ]
          refine tk 20 rfl (by kernel_rfl) hHeld (fun _ _ _ h => h) (v := ?_) ?_ ?_
          rotate_left 1
          · (intro w hSw; (try dsimp only at hSw); (try simp only [List.getElem_toArray, List.getElem_cons_succ, List.getElem_cons_zero]); go_simp) <;> (with_reducible rfl)
          try simp only [List.getElem_toArray, List.getElem_cons_succ, List.getElem_cons_zero, Act.put, List.setIfInBounds_toArray, List.set_cons_zero, List.set_cons_succ]
          refine tk 21 rfl (by kernel_rfl) hHeld (fun _ _ _ h => h) (v := ?_) ?_ ?_
          rotate_left 1
          · (intro w hSw; (try dsimp only at hSw); (try simp only [List.getElem_toArray, List.getElem_cons_succ, List.getElem_cons_zero]); go_simp) <;> (with_reducible rfl)
          try simp only [List.getElem_toArray, List.getElem_cons_succ, List.getElem_cons_zero, Act.put, List.setIfInBounds_toArray, List.set_cons_zero, List.set_cons_succ]
          refine tk 22 rfl (by kernel_rfl) hHeld (fun _ _ _ h => h) (v := ?_) ?_ ?_
          rotate_left 1
          · (intro w hSw; (try dsimp only at hSw); (try simp only [List.getElem_toArray, List.getElem_cons_succ, List.getElem_cons_zero]); go_simp) <;> (with_reducible rfl)
          try simp only [List.getElem_toArray, List.getElem_cons_succ, List.getElem_cons_zero, Act.put, List.setIfInBounds_toArray, List.set_cons_zero, List.set_cons_succ]
          refine tk 23 rfl (by kernel_rfl) hHeld (fun _ _ _ h => h) (v := ?_) ?_ ?_
          rotate_left 1
          · (intro w hSw; (try dsimp only at hSw); (try simp only [List.getElem_toArray, List.getElem_cons_succ, List.getElem_cons_zero]); go_simp) <;> (with_reducible rfl)
          try simp only [List.getElem_toArray, List.getElem_cons_succ, List.getElem_cons_zero, Act.put, List.setIfInBounds_toArray, List.set_cons_zero, List.set_cons_succ]
          refine tk 24 rfl (by kernel_rfl) hHeld (fun _ _ _ h => h) (v := ?_) ?_ ?_
          rotate_left 1
          · (intro w hSw; (try dsimp only at hSw); (try simp only [List.getElem_toArray, List.getElem_cons_succ, List.getElem_cons_zero]); go_simp) <;> (with_reducible rfl)
          try simp only [List.getElem_toArray, List.getElem_cons_succ, List.getElem_cons_zero, Act.put, List.setIfInBounds_toArray, List.set_cons_zero, List.set_cons_succ]
          refine tk 25 rfl (by kernel_rfl) hHeld (fun _ _ _ h => h) (v := ?_) ?_ ?_
          rotate_left 1
          · (intro w hSw; (try dsimp only at hSw); (try simp only [List.getElem_toArray, List.getElem_cons_succ, List.getElem_cons_zero]); go_simp) <;> (with_reducible rfl)
          try simp only [List.getElem_toArray, List.getElem_cons_succ, List.getElem_cons_zero, Act.put, List.setIfInBounds_toArray, List.set_cons_zero, List.set_cons_succ]
          refine tk 26 rfl (by kernel_rfl) hHeld (fun _ _ _ h => h) (v := ?_) ?_ ?_
          rotate_left 1
          · (intro w hSw; (try dsimp only at hSw); (try simp only [List.getElem_toArray, List.getElem_cons_succ, List.getElem_cons_zero]); go_simp) <;> (with_reducible rfl)
          try simp only [List.getElem_toArray, List.getElem_cons_succ, List.getElem_cons_zero, Act.put, List.setIfInBounds_toArray, List.set_cons_zero, List.set_cons_succ]
          refine tk 27 rfl (by kernel_rfl) hHeld (fun _ _ _ h => h) (v := ?_) ?_ ?_
          rotate_left 1
          · (intro w hSw; (try dsimp only at hSw); (try simp only [List.getElem_toArray, List.getElem_cons_succ, List.getElem_cons_zero]); go_simp) <;> (with_reducible rfl)
          try simp only [List.getElem_toArray, List.getElem_cons_succ, List.getElem_cons_zero, Act.put, List.setIfInBounds_toArray, List.set_cons_zero, List.set_cons_succ]
          refine tk 28 rfl (by kernel_rfl) hHeld (fun _ _ _ h => h) (v := ?_) ?_ ?_
          rotate_left 1
          · (intro w hSw; (try dsimp only at hSw); (try simp only [List.getElem_toArray, List.getElem_cons_succ, List.getElem_cons_zero]); go_simp) <;> (with_reducible rfl)
          try simp only [List.getElem_toArray, List.getElem_cons_succ, List.getElem_cons_zero, Act.put, List.setIfInBounds_toArray, List.set_cons_zero, List.set_cons_succ]
          refine tk 29 rfl (by kernel_rfl) hHeld (fun _ _ _ h => h) (v := ?_) ?_ ?_
          rotate_left 1
          · (intro w hSw; (try dsimp only at hSw); (try simp only [List.getElem_toArray, List.getElem_cons_succ, List.getElem_cons_zero]); go_simp) <;> (with_reducible rfl)
          try simp only [List.getElem_toArray, List.getElem_cons_succ, List.getElem_cons_zero, Act.put, List.setIfInBounds_toArray, List.set_cons_zero, List.set_cons_succ]
          refine tk 30 rfl (by kernel_rfl) hHeld (fun _ _ _ h => h) (v := ?_) ?_ ?_
          rotate_left 1
          · (intro w hSw; (try dsimp only at hSw); (try simp only [List.getElem_toArray, List.getElem_cons_succ, List.getElem_cons_zero]); go_simp) <;> (with_reducible rfl)
          try simp only [List.getElem_toArray, List.getElem_cons_succ, List.getElem_cons_zero, Act.put, List.setIfInBounds_toArray, List.set_cons_zero, List.set_cons_succ]
          refine tk 31 rfl (by kernel_rfl) hHeld (fun _ _ _ h => h) (v := ?_) ?_ ?_
          rotate_left 1
          · (intro w hSw; (try dsimp only at hSw); (try simp only [List.getElem_toArray, List.getElem_cons_succ, List.getElem_cons_zero]); go_simp) <;> (with_reducible rfl)
          try simp only [List.getElem_toArray, List.getElem_cons_succ, List.getElem_cons_zero, Act.put, List.setIfInBounds_toArray, List.set_cons_zero, List.set_cons_succ]
          refine tk 32 rfl (by kernel_rfl) hHeld (fun _ _ _ h => h) (v := ?_) ?_ ?_
          rotate_left 1
          · (intro w hSw; (try dsimp only at hSw); (try simp only [List.getElem_toArray, List.getElem_cons_succ, List.getElem_cons_zero]); go_simp) <;> (with_reducible rfl)
          try simp only [List.getElem_toArray, List.getElem_cons_succ, List.getElem_cons_zero, Act.put, List.setIfInBounds_toArray, List.set_cons_zero, List.set_cons_succ]
          refine tk 33 rfl (by kernel_rfl) hHeld (fun _ _ _ h => h) (v := ?_) ?_ ?_
          rotate_left 1
          · (intro w hSw; (try dsimp only at hSw); (try simp only [List.getElem_toArray, List.getElem_cons_succ, List.getElem_cons_zero]); go_simp) <;> (with_reducible rfl)
          try simp only [List.getElem_toArray, List.getElem_cons_succ, List.getElem_cons_zero, Act.put, List.setIfInBounds_toArray, List.set_cons_zero, List.set_cons_succ]
          refine sk 34 rfl (by kernel_rfl) hHeld (fun _ _ _ h => h) ?_
          try simp only [List.getElem_toArray, List.getElem_cons_succ, List.getElem_cons_zero, Act.put, List.setIfInBounds_toArray, List.set_cons_zero, List.set_cons_succ]
          refine sk 35 rfl (by kernel_rfl) hHeld (fun _ _ _ h => h) ?_
          try simp only [List.getElem_toArray, List.getElem_cons_succ, List.getElem_cons_zero, Act.put, List.setIfInBounds_toArray, List.set_cons_zero, List.set_cons_succ]
          refine sk 36 rfl (by kernel_rfl) hHeld (fun _ _ _ h => h) ?_
          try simp only [List.getElem_toArray, List.getElem_cons_succ, List.getElem_cons_zero, Act.put, List.setIfInBounds_toArray, List.set_cons_zero, List.set_cons_succ]
          refine sk 37 rfl (by kernel_rfl) hHeld (fun _ _ _ h => h) ?_
          try simp only [List.getElem_toArray, List.getElem_cons_succ, List.getElem_cons_zero, Act.put, List.setIfInBounds_toArray, List.set_cons_zero, List.set_cons_succ]
          refine sk 38 rfl (by kernel_rfl) hHeld (fun _ _ _ h => h) ?_
          try simp only [List.getElem_toArray, List.getElem_cons_succ, List.getElem_cons_zero, Act.put, List.setIfInBounds_toArray, List.set_cons_zero, List.set_cons_succ]
          refine sk 39 rfl (by kernel_rfl) hHeld (fun _ _ _ h => h) ?_
          try simp only [List.getElem_toArray, List.getElem_cons_succ, List.getElem_cons_zero, Act.put, List.setIfInBounds_toArray, List.set_cons_zero, List.set_cons_succ]
          refine sk 40 rfl (by kernel_rfl) hHeld (fun _ _ _ h => h) ?_
          try simp only [List.getElem_toArray, List.getElem_cons_succ, List.getElem_cons_zero, Act.put, List.setIfInBounds_toArray, List.set_cons_zero, List.set_cons_succ]
          refine sk 41 rfl (by kernel_rfl) hHeld (fun _ _ _ h => h) ?_
          try simp only [List.getElem_toArray, List.getElem_cons_succ, List.getElem_cons_zero, Act.put, List.setIfInBounds_toArray, List.set_cons_zero, List.set_cons_succ]
          refine tk 42 rfl (by kernel_rfl) hHeld (fun _ _ _ h => h) (v := ?_) ?_ ?_
          rotate_left 1
          · (intro w hSw; (try dsimp only at hSw); (try simp only [List.getElem_toArray, List.getElem_cons_succ, List.getElem_cons_zero]); go_simp) <;> (with_reducible rfl)
          try simp only [List.getElem_toArray, List.getElem_cons_succ, List.getElem_cons_zero, Act.put, List.setIfInBounds_toArray, List.set_cons_zero, List.set_cons_succ]
          refine tk 43 rfl (by kernel_rfl) hHeld (fun _ _ _ h => h) (v := ?_) ?_ ?_
          rotate_left 1
          · (intro w hSw; (try dsimp only at hSw); (try simp only [List.getElem_toArray, List.getElem_cons_succ, List.getElem_cons_zero]); go_simp) <;> (with_reducible rfl)
          try simp only [List.getElem_toArray, List.getElem_cons_succ, List.getElem_cons_zero, Act.put, List.setIfInBounds_toArray, List.set_cons_zero, List.set_cons_succ]
          refine tk 44 rfl (by kernel_rfl) hHeld (fun _ _ _ h => h) (v := ?_) ?_ ?_
          rotate_left 1
          · (intro w hSw; (try dsimp only at hSw); (try simp only [List.getElem_toArray, List.getElem_cons_succ, List.getElem_cons_zero]); go_simp) <;> (with_reducible rfl)
          try simp only [List.getElem_toArray, List.getElem_cons_succ, List.getElem_cons_zero, Act.put, List.setIfInBounds_toArray, List.set_cons_zero, List.set_cons_succ]
          refine tk 45 rfl (by kernel_rfl) hHeld (fun _ _ _ h => h) (v := ?_) ?_ ?_
          rotate_left 1
          · (intro w hSw; (try dsimp only at hSw); (try simp only [List.getElem_toArray, List.getElem_cons_succ, List.getElem_cons_zero]); go_simp) <;> (with_reducible rfl)
          try simp only [List.getElem_toArray, List.getElem_cons_succ, List.getElem_cons_zero, Act.put, List.setIfInBounds_toArray, List.set_cons_zero, List.set_cons_succ]
          refine tk 46 rfl (by kernel_rfl) hHeld (fun _ _ _ h => h) (v := ?_) ?_ ?_
          rotate_left 1
          · (intro w hSw; (try dsimp only at hSw); (try simp only [List.getElem_toArray, List.getElem_cons_succ, List.getElem_cons_zero]); go_simp) <;> (with_reducible rfl)
          try simp only [List.getElem_toArray, List.getElem_cons_succ, List.getElem_cons_zero, Act.put, List.setIfInBounds_toArray, List.set_cons_zero, List.set_cons_succ]
          refine tk 47 rfl (by kernel_rfl) hHeld (fun _ _ _ h => h) (v := ?_) ?_ ?_
          rotate_left 1
          · (intro w hSw; (try dsimp only at hSw); (try simp only [List.getElem_toArray, List.getElem_cons_succ, List.getElem_cons_zero]); go_simp) <;> (with_reducible rfl)
          try simp only [List.getElem_toArray, List.getElem_cons_succ, List.getElem_cons_zero, Act.put, List.setIfInBounds_toArray, List.set_cons_zero, List.set_cons_succ]
          refine tk 49 rfl (by kernel_rfl) hHeld (fun _ _ _ h => h) (v := ?_) ?_ ?_
          rotate_left 1
          · (intro w hSw; (try dsimp only at hSw); (try simp only [List.getElem_toArray, List.getElem_cons_succ, List.getElem_cons_zero]); go_simp) <;> (with_reducible rfl)
          try simp only [List.getElem_toArray, List.getElem_cons_succ, List.getElem_cons_zero, Act.put, List.setIfInBounds_toArray, List.set_cons_zero, List.set_cons_succ]
          refine tk 50 rfl (by kernel_rfl) hHeld (fun _ _ _ h => h) (v := ?_) ?_ ?_
          rotate_left 1
          · (intro w hSw; (try dsimp only at hSw); (try simp only [List.getElem_toArray, List.getElem_cons_succ, List.getElem_cons_zero]); go_simp) <;> (with_reducible rfl)
          try simp only [List.getElem_toArray, List.getElem_cons_succ, List.getElem_cons_zero, Act.put, List.setIfInBounds_toArray, List.set_cons_zero, List.set_cons_succ]
          refine wpAnyH_ready (rs := [48]) (by kernel_rfl) (by simp) (AllReadyH.cons rfl (fun K hK => ?_) AllReadyH.nil)
          simp only [List.getElem_toArray, List.getElem_cons_succ, List.getElem_cons_zero]
          go_simp
          go_at_call 32
          refine (MV2.out wd (H5b.out.below bd).i.items (SI8.out.below bd SI8.out.lt).by_ (by have := SI8.out.lt; have := bd.size; omega)).mono ?_
          rintro e wa ⟨A9, c9, rfl, hc9, own9, bz⟩
          try go_wp2_with fail
          have ba := bd.trans (bz.mono bd.size)
          have U9 := Lib.hid (Q.us_mv own9 (fun m hm => ((H5b.out.below ba).i.items.el m hm)))
          refine hK.out _ _ (CELL.out _ ba) (fun hHeld => ?_)
          clear hK K bz own9 hc9
          try simp only [List.getElem_toArray, List.getElem_cons_succ, List.getElem_cons_zero, Act.put, List.setIfInBounds_toArray, List.set_cons_zero, List.set_cons_succ]
          refine wpAnyH_ready (rs := [51]) (by kernel_rfl) (by simp) (AllReadyH.cons rfl (fun K hK => ?_) AllReadyH.nil)
          simp only [List.getElem_toArray, List.getElem_cons_succ, List.getElem_cons_zero]
          go_simp
          go_at_call 31
          have SU := sameuts_any A9 ai8 c9 ci8 wa.heap.size (it5.map (fun x => Q.Um.mv x x1)) it8 wa U9.out (H8.out.below ba).i.items (Nat.le_refl _) (by rw [IT.out, List.map_map, List.map_map]; rfl) (by rw [List.length_map]; unfold maxLen; omega) (fun m hm => by obtain ⟨x, hx, rfl⟩ := List.mem_map.1 hm; exact (SX.out.2.2 x.u (List.mem_map.2 ⟨x, hx, rfl⟩)).ok)
          rw [List.length_map] at SU
          refine SU.mono ?_
          clear SU
          rintro e wb ⟨rfl, bz⟩
          try go_wp2_with fail
          have bb := ba.trans (bz.mono ba.size)
          refine hK.out _ _ (CELL.out _ bb) (fun hHeld => ?_)
          clear hK K bz
          try simp only [List.getElem_toArray, List.getElem_cons_succ, List.getElem_cons_zero, Act.put, List.setIfInBounds_toArray, List.set_cons_zero, List.set_cons_succ]
          refine tk 52 rfl (by kernel_rfl) hHeld (fun _ _ _ h => h) (v := ?_) ?_ ?_
          rotate_left 1
          · (intro w hSw; (try dsimp only at hSw); (try simp only [List.getElem_toArray, List.getElem_cons_succ, List.getElem_cons_zero]); go_simp) <;> (with_reducible rfl)
          try simp only [List.getElem_toArray, List.getElem_cons_succ, List.getElem_cons_zero, Act.put, List.setIfInBounds_toArray, List.set_cons_zero, List.set_cons_succ]
          refine tk 53 rfl (by kernel_rfl) hHeld (fun _ _ _ h => h) (v := ?_) ?_ ?_
          rotate_left 1
          · (intro w hSw; (try dsimp only at hSw); (try simp only [List.getElem_toArray, List.getElem_cons_succ, List.getElem_cons_zero]); go_simp) <;> (with_reducible rfl)
          try simp only [List.getElem_toArray, List.getElem_cons_succ, List.getElem_cons_zero, Act.put, List.setIfInBounds_toArray, List.set_cons_zero, List.set_cons_succ]
          refine wpAnyH_done (by kernel_rfl) ?_ _
          have BB := Lib.hid bb
          clear bb ba bd
          go_wp2_with fail
          go_loopw [160] (fun v wr => ∃ k : Nat, k ≤ ss5.length ∧ v = .int .i64 k ∧ Hid (Below W9.heap.size W9 wr)) (fun v _ => ss5.length - (intOf v).toNat)
          case atStart => exact ⟨0, Nat.zero_le _, rfl, BB⟩
          case round =>
            obtain ⟨k, hk, rfl, hB⟩ := hrel
            by_cases hlt : k < ss5.length
            · have hr5 : Reads _ _ 8 A5 ss5.length (Q.scs ss5) := (R5b.out.on hB.out).row
              have hr8 : Reads _ _ 8 A8 ss8.length (Q.scs ss8) := (R8.out.on hB.out).row
              have hlt8 : k < ss8.length := by have := HLS.out; omega
              obtain ⟨p1_, o1, rfl, _, hcl1⟩ := Q.reads_sp hr5 (Nat.lt_of_le_of_lt (Nat.zero_le k) hlt)
              obtain ⟨p2_, o2, rfl, _, hcl2⟩ := Q.reads_sp hr8 (Nat.lt_of_le_of_lt (Nat.zero_le k) hlt8)
              obtain ⟨_, _, _, _, _, r5, r6, _⟩ := hcl1 k hlt
              obtain ⟨_, _, _, _, _, g5, g6, _⟩ := hcl2 k hlt8
              have za := (SI8.out.below hB.out SI8.out.lt).by_
              have q0 : decide ((k : Int) < (ss5.length : Int)) = true := decide_eq_true (by omega)
              have q1 : (0 : Int) ≤ (k : Int) := by omega
              have q2 : (k : Int) < (ss5.length : Int) := by omega
              have q3 : (k : Int) < (ss8.length : Int) := by omega
              have hk1 : k + 1 ≤ 9 := by omega
              have hb := XB.out (ss5[k].a) (by rw [← ES5.out]; exact List.mem_map.2 ⟨_, List.getElem_mem hlt, rfl⟩)
              have hee : ss8[k].a = (ss5[k].a).mv x1 := by
                have h1 := congrArg (fun l => l[k]?) ES8.out
                rw [← ES5.out] at h1
                simpa [hlt, hlt8] using h1
              have hbe : ss8[k].be = ss5[k].be + x1 := congrArg Q.Sa.be hee
              have hen : ss8[k].en = ss5[k].en + x1 := congrArg Q.Sa.en hee
              simp only [Q.Sm.a] at hb
              obtain ⟨y1, hy1⟩ : ∃ y, ss5[k].be = y := ⟨_, rfl⟩
              obtain ⟨y2, hy2⟩ : ∃ y, ss5[k].en = y := ⟨_, rfl⟩
              rw [hbe, hy1] at g5
              rw [hen, hy2] at g6
              rw [hy1] at r5 hb
              rw [hy2] at r6 hb
              have w6_ : IntKind.i64.wrap (y1 + x1) = y1 + x1 := by have := LX.out; have := TT.out; simp [IntKind.wrap, IntKind.bits, IntKind.signed]; omega
              have w7_ : IntKind.i64.wrap (y2 + x1) = y2 + x1 := by have := LX.out; have := TT.out; simp [IntKind.wrap, IntKind.bits, IntKind.signed]; omega
              clear hr5 hr8 hcl1 hcl2 hb hee hbe hen hy1 hy2
              go_wp2_with fail
              go_quiet (fail)
              go_wp2
              go_roundw
              case rel => exact ⟨k + 1, by omega, by go_num, Lib.hid (below_drewN hB.out _)⟩
              case measure => simp [intOf] <;> omega
            · have q0 : decide ((k : Int) < (ss5.length : Int)) = false := decide_eq_false (by omega)
              go_wp2_with (first
                | (go_at_call 13; go_loud ((refine (AWK.out _).mono ?_); (rintro e wE ⟨rfl, bE⟩); (have BE := Lib.hid ((SI8.out.b.trans (hB.out.mono SI8.out.b.size)).trans (bE.mono (Nat.le_trans SI8.out.b.size hB.out.size)))); (clear bE))))
              go_ret
              exact ⟨rfl, BE.out⟩
        | true =>
          obtain rfl : sp8 = true := ex3
          simp only [if_true] at ex6
          have hen := (CX.out.sp rfl).2.2.2
          simp only [Q.Qm.a] at hen
          have he0 := CX.out.ck.1
          simp only [Q.Qm.a] at he0
          have ge : IntKind.i64.wrap (en5 + x1) = en8 := by rw [ex6]; have := LX.out; simp [IntKind.wrap, IntKind.bits, IntKind.signed]; omega
          clear hen he0 ex6
          refine wp_normal ?_
          refine wp_region_held_drew (S := fun w' => (w'.cell? ⟨w7.heap.size, 0, none⟩ = some (.int .i64 ck5) ∧ w'.cell? ⟨w7.heap.size, 1, none⟩ = some (.int .i64 rt5) ∧ w'.cell? ⟨w7.heap.size, 2, none⟩ = some (.bool true) ∧ w'.cell? ⟨w7.heap.size, 3, none⟩ = some (.slice a05 p05.length c05) ∧ w'.cell? ⟨w7.heap.size, 4, none⟩ = some (.slice a15 p15.length c15) ∧ w'.cell? ⟨w7.heap.size, 5, none⟩ = some (.int .i64 p25) ∧ w'.cell? ⟨w7.heap.size, 6, none⟩ = some (.int .i64 p35) ∧ w'.cell? ⟨w7.heap.size, 7, none⟩ = some (.int .i64 p45) ∧ w'.cell? ⟨w7.heap.size, 8, none⟩ = some (.int .i64 be5) ∧ w'.cell? ⟨w7.heap.size, 9, none⟩ = some (.int .i64 en5) ∧ w'.cell? ⟨w7.heap.size, 10, none⟩ = some (.slice ai5 it5.length ci5)) ∧ (w'.cell? ⟨w8.heap.size, 0, none⟩ = some (.int .i64 ck8) ∧ w'.cell? ⟨w8.heap.size, 1, none⟩ = some (.int .i64 rt8) ∧ w'.cell? ⟨w8.heap.size, 2, none⟩ = some (.bool true) ∧ w'.cell? ⟨w8.heap.size, 3, none⟩ = some (.slice a08 p08.length c08) ∧ w'.cell? ⟨w8.heap.size, 4, none⟩ = some (.slice a18 p18.length c18) ∧ w'.cell? ⟨w8.heap.size, 5, none⟩ = some (.int .i64 p28) ∧ w'.cell? ⟨w8.heap.size, 6, none⟩ = some (.int .i64 p38) ∧ w'.cell? ⟨w8.heap.size, 7, none⟩ = some (.int .i64 p48) ∧ w'.cell? ⟨w8.heap.size, 8, none⟩ = some (.int .i64 be8) ∧ w'.cell? ⟨w8.heap.size, 9, none⟩ = some (.int .i64 en8) ∧ w'.cell? ⟨w8.heap.size, 10, none⟩ = some (.slice ai8 it8.length ci8)) ∧ w'.cell? ⟨w.heap.size + 1, 0, none⟩ = some (.int .u32 x1)) (by kernel_rfl) (CELL.out _ (Below.refl _ W9).drew) (fun hHeld => ?_)
          obtain ⟨wd, hwd⟩ : ∃ wd, W9.drew = wd := ⟨_, rfl⟩
          have bd : Below W9.heap.size W9 wd := by rw [← hwd]; exact (Below.refl _ W9).drew
          rw [hwd] at hHeld ⊢
          clear hwd
          refine tk 0 rfl (by kernel_rfl) hHeld (fun _ _ _ h => h) (v := ?_) ?_ ?_
          rotate_left 1
          · (intro w hSw; (try dsimp only at hSw); (try simp only [List.getElem_toArray, List.getElem_cons_succ, List.getElem_cons_zero]); go_simp) <;> (with_reducible rfl)
          try simp only [List.getElem_toArray, List.getElem_cons_succ, List.getElem_cons_zero, Act.put, List.setIfInBounds_toArray, List.set_cons_zero, List.set_cons_succ]
          refine tk 1 rfl (by kernel_rfl) hHeld (fun _ _ _ h => h) (v := ?_) ?_ ?_
          rotate_left 1
          · (intro w hSw; (try dsimp only at hSw); (try simp only [List.getElem_toArray, List.getElem_cons_succ, List.getElem_cons_zero]); go_simp) <;> (with_reducible rfl)
          try simp only [List.getElem_toArray, List.getElem_cons_succ, List.getElem_cons_zero, Act.put, List.setIfInBounds_toArray, List.set_cons_zero, List.set_cons_succ]
          refine tk 2 rfl (by kernel_rfl) hHeld (fun _ _ _ h => h) (v := ?_) ?_ ?_
          rotate_left 1
          · (intro w hSw; (try dsimp only at hSw); (try simp only [List.getElem_toArray, List.getElem_cons_succ, List.getElem_cons_zero]); go_simp) <;> (with_reducible rfl)
          try simp only [List.getElem_toArray, List.getElem_cons_succ, List.getElem_cons_zero, Act.put, List.setIfInBounds_toArray, List.set_cons_zero, List.set_cons_succ]
          refine tk 3 rfl (by kernel_rfl) hHeld (fun _ _ _ h => h) (v := ?_) ?_ ?_
          rotate_left 1
          · (intro w hSw; (try dsimp only at hSw); (try simp only [List.getElem_toArray, List.getElem_cons_succ, List.getElem_cons_zero]); go_simp) <;> (with_reducible rfl)
          try simp only [List.getElem_toArray, List.getElem_cons_succ, List.getElem_cons_zero, Act.put, List.setIfInBounds_toArray, List.set_cons_zero, List.set_cons_succ]
          refine tk 4 rfl (by kernel_rfl) hHeld (fun _ _ _ h => h) (v := ?_) ?_ ?_
          rotate_left 1
          · (intro w hSw; (try dsimp only at hSw); (try simp only [List.getElem_toArray, List.getElem_cons_succ, List.getElem_cons_zero]); go_simp) <;> (with_reducible rfl)
          try simp only [List.getElem_toArray, List.getElem_cons_succ, List.getElem_cons_zero, Act.put, List.setIfInBounds_toArray, List.set_cons_zero, List.set_cons_succ]
          refine tk 5 rfl (by kernel_rfl) hHeld (fun _ _ _ h => h) (v := ?_) ?_ ?_
          rotate_left 1
          · (intro w hSw; (try dsimp only at hSw); (try simp only [List.getElem_toArray, List.getElem_cons_succ, List.getElem_cons_zero]); go_simp) <;> (with_reducible rfl)
          try simp only [List.getElem_toArray, List.getElem_cons_succ, List.getElem_cons_zero, Act.put, List.setIfInBounds_toArray, List.set_cons_zero, List.set_cons_succ]
          refine tk 6 rfl (by kernel_rfl) hHeld (fun _ _ _ h => h) (v := ?_) ?_ ?_
          rotate_left 1
          · (intro w hSw; (try dsimp only at hSw); (try simp only [List.getElem_toArray, List.getElem_cons_succ, List.getElem_cons_zero]); go_simp) <;> (with_reducible rfl)
          try simp only [List.getElem_toArray, List.getElem_cons_succ, List.getElem_cons_zero, Act.put, List.setIfInBounds_toArray, List.set_cons_zero, List.set_cons_succ]
          refine tk 7 rfl (by kernel_rfl) hHeld (fun _ _ _ h => h) (v := ?_) ?_ ?_
          rotate_left 1
          · (intro w hSw; (try dsimp only at hSw); (try simp only [List.getElem_toArray, List.getElem_cons_succ, List.getElem_cons_zero]); go_simp) <;> (with_reducible rfl)
          try simp only [List.getElem_toArray, List.getElem_cons_succ, List.getElem_cons_zero, Act.put, List.setIfInBounds_toArray, List.set_cons_zero, List.set_cons_succ]
          refine tk 8 rfl (by kernel_rfl) hHeld (fun _ _ _ h => h) (v := ?_) ?_ ?_
          rotate_left 1
          · (intro w hSw; (try dsimp only at hSw); (try simp only [List.getElem_toArray, List.getElem_cons_succ, List.getElem_cons_zero]); go_simp) <;> (with_reducible rfl)
          try simp only [List.getElem_toArray, List.getElem_cons_succ, List.getElem_cons_zero, Act.put, List.setIfInBounds_toArray, List.set_cons_zero, List.set_cons_succ]
          refine tk 9 rfl (by kernel_rfl) hHeld (fun _ _ _ h => h) (v := ?_) ?_ ?_
          rotate_left 1
          · (intro w hSw; (try dsimp only at hSw); (try simp only [List.getElem_toArray, List.getElem_cons_succ, List.getElem_cons_zero]); go_simp) <;> (with_reducible rfl)
          try simp only [List.getElem_toArray, List.getElem_cons_succ, List.getElem_cons_zero, Act.put, List.setIfInBounds_toArray, List.set_cons_zero, List.set_cons_succ]
          refine tk 10 rfl (by kernel_rfl) hHeld (fun _ _ _ h => h) (v := ?_) ?_ ?_
          rotate_left 1
          · (intro w hSw; (try dsimp only at hSw); (try simp only [List.getElem_toArray, List.getElem_cons_succ, List.getElem_cons_zero]); go_simp) <;> (with_reducible rfl)
          try simp only [List.getElem_toArray, List.getElem_cons_succ, List.getElem_cons_zero, Act.put, List.setIfInBounds_toArray, List.set_cons_zero, List.set_cons_succ]
          refine tk 11 rfl (by kernel_rfl) hHeld (fun _ _ _ h => h) (v := ?_) ?_ ?_
          rotate_left 1
          · (intro w hSw; (try dsimp only at hSw); (try simp only [List.getElem_toArray, List.getElem_cons_succ, List.getElem_cons_zero]); go_simp) <;> (with_reducible rfl)
          try simp only [List.getElem_toArray, List.getElem_cons_succ, List.getElem_cons_zero, Act.put, List.setIfInBounds_toArray, List.set_cons_zero, List.set_cons_succ]
          refine tk 12 rfl (by kernel_rfl) hHeld (fun _ _ _ h => h) (v := ?_) ?_ ?_
          rotate_left 1
          · (intro w hSw; (try dsimp only at hSw); (try simp only [List.getElem_toArray, List.getElem_cons_succ, List.getElem_cons_zero]); go_simp) <;> (with_reducible rfl)
          try simp only [List.getElem_toArray, List.getElem_cons_succ, List.getElem_cons_zero, Act.put, List.setIfInBounds_toArray, List.set_cons_zero, List.set_cons_succ]
          refine tk 13 rfl (by kernel_rfl) hHeld (fun _ _ _ h => h) (v := ?_) ?_ ?_
          rotate_left 1
          · (intro w hSw; (try dsimp only at hSw); (try simp only [List.getElem_toArray, List.getElem_cons_succ, List.getElem_cons_zero]); go_simp) <;> (with_reducible rfl)
          try simp only [List.getElem_toArray, List.getElem_cons_succ, List.getElem_cons_zero, Act.put, List.setIfInBounds_toArray, List.set_cons_zero, List.set_cons_succ]
          refine tk 14 rfl (by kernel_rfl) hHeld (fun _ _ _ h => h) (v := ?_) ?_ ?_
          rotate_left 1
          · (intro w hSw; (try dsimp only at hSw); (try simp only [List.getElem_toArray, List.getElem_cons_succ, List.getElem_cons_zero]); go_simp) <;> (with_reducible rfl)
          try simp only [List.getElem_toArray, List.getElem_cons_succ, List.getElem_cons_zero, Act.put, List.setIfInBounds_toArray, List.set_cons_zero, List.set_cons_succ]
          refine tk 15 rfl (by kernel_rfl) hHeld (fun _ _ _ h => h) (v := ?_) ?_ ?_
          rotate_left 1
          · (intro w hSw; (try dsimp only at hSw); (try simp only [List.getElem_toArray, List.getElem_cons_succ, List.getElem_cons_zero]); go_simp) <;> (with_reducible rfl)
          try simp only [List.getElem_toArray, List.getElem_cons_succ, List.getElem_cons_zero, Act.put, List.setIfInBounds_toArray, List.set_cons_zero, List.set_cons_succ]
          refine tk 16 rfl (by kernel_rfl) hHeld (fun _ _ _ h => h) (v := ?_) ?_ ?_
          rotate_left 1
          · (intro w hSw; (try dsimp only at hSw); (try simp only [List.getElem_toArray, List.getElem_cons_succ, List.getElem_cons_zero]); go_simp) <;> (with_reducible rfl)
          try simp only [List.getElem_toArray, List.getElem_cons_succ, List.getElem_cons_zero, Act.put, List.setIfInBounds_toArray, List.set_cons_zero, List.set_cons_succ]
          refine tk 17 rfl (by kernel_rfl) hHeld (fun _ _ _ h => h) (v := ?_) ?_ ?_
          rotate_left 1
          · (intro w hSw; (try dsimp only at hSw); (try simp only [List.getElem_toArray, List.getElem_cons_succ, List.getElem_cons_zero]); go_simp) <;> (with_reducible rfl)
          try simp only [List.getElem_toArray, List.getElem_cons_succ, List.getElem_cons_zero, Act.put, List.setIfInBounds_toArray, List.set_cons_zero, List.set_cons_succ]
          refine tk 18 rfl (by kernel_rfl) hHeld (fun _ _ _ h => h) (v := ?_) ?_ ?_
          rotate_left 1
          · (intro w hSw; (try dsimp only at hSw); (try simp only [List.getElem_toArray, List.getElem_cons_succ, List.getElem_cons_zero]); go_simp) <;> (with_reducible rfl)
          try simp only [List.getElem_toArray, List.getElem_cons_succ, List.getElem_cons_zero, Act.put, List.setIfInBounds_toArray, List.set_cons_zero, List.set_cons_succ]
          refine tk 19 rfl (by kernel_rfl) hHeld (fun _ _ _ h => h) (v := ?_) ?_ ?_
          rotate_left 1
          · (intro w hSw; (try dsimp only at hSw); (try simp only [List.getElem_toArray, List.getElem_cons_succ, List.getElem_cons_zero]); go_simp) <;> (with_reducible rfl)
          try simp only [List.getElem_toArray, List.getElem_cons_succ, List.getElem_cons_zero, Act.put, List.setIfInBounds_toArray, List.set_cons_zero, List.set_cons_succ]
          refine tk 20 rfl (by kernel_rfl) hHeld (fun _ _ _ h => h) (v := ?_) ?_ ?_
          rotate_left 1
          · (intro w hSw; (try dsimp only at hSw); (try simp only [List.getElem_toArray, List.getElem_cons_succ, List.getElem_cons_zero]); go_simp) <;> (with_reducible rfl)
          try simp only [List.getElem_toArray, List.getElem_cons_succ, List.getElem_cons_zero, Act.put, List.setIfInBounds_toArray, List.set_cons_zero, List.set_cons_succ]
          refine tk 21 rfl (by kernel_rfl) hHeld (fun _ _ _ h => h) (v := ?_) ?_ ?_
          rotate_left 1
          · (intro w hSw; (try dsimp only at hSw); (try simp only [List.getElem_toArray, List.getElem_cons_succ, List.getElem_cons_zero]); go_simp) <;> (with_reducible rfl)
          try simp only [List.getElem_toArray, List.getElem_cons_succ, List.getElem_cons_zero, Act.put, List.setIfInBounds_toArray, List.set_cons_zero, List.set_cons_succ]
          refine tk 22 rfl (by kernel_rfl) hHeld (fun _ _ _ h => h) (v := ?_) ?_ ?_
          rotate_left 1
          · (intro w hSw; (try dsimp only at hSw); (try simp only [List.getElem_toArray, List.getElem_cons_succ, List.getElem_cons_zero]); go_simp) <;> (with_reducible rfl)
          try simp only [List.getElem_toArray, List.getElem_cons_succ, List.getElem_cons_zero, Act.put, List.setIfInBounds_toArray, List.set_cons_zero, List.set_cons_succ]
          refine tk 23 rfl (by kernel_rfl) hHeld (fun _ _ _ h => h) (v := ?_) ?_ ?_
          rotate_left 1
          · (intro w hSw; (try dsimp only at hSw); (try simp only [List.getElem_toArray, List.getElem_cons_succ, List.getElem_cons_zero]); go_simp) <;> (with_reducible rfl)
          try simp only [List.getElem_toArray, List.getElem_cons_succ, List.getElem_cons_zero, Act.put, List.setIfInBounds_toArray, List.set_cons_zero, List.set_cons_succ]
          refine tk 24 rfl (by kernel_rfl) hHeld (fun _ _ _ h => h) (v := ?_) ?_ ?_
          rotate_left 1
          · (intro w hSw; (try dsimp only at hSw); (try simp only [List.getElem_toArray, List.getElem_cons_succ, List.getElem_cons_zero]); go_simp) <;> (with_reducible rfl)
          try simp only [List.getElem_toArray, List.getElem_cons_succ, List.getElem_cons_zero, Act.put, List.setIfInBounds_toArray, List.set_cons_zero, List.set_cons_succ]
          refine tk 25 rfl (by kernel_rfl) hHeld (fun _ _ _ h => h) (v := ?_) ?_ ?_
          rotate_left 1
          · (intro w hSw; (try dsimp only at hSw); (try simp only [List.getElem_toArray, List.getElem_cons_succ, List.getElem_cons_zero]); go_simp) <;> (with_reducible rfl)
          try simp only [List.getElem_toArray, List.getElem_cons_succ, List.getElem_cons_zero, Act.put, List.setIfInBounds_toArray, List.set_cons_zero, List.set_cons_succ]
          refine tk 26 rfl (by kernel_rfl) hHeld (fun _ _ _ h => h) (v := ?_) ?_ ?_
          rotate_left 1
          · (intro w hSw; (try dsimp only at hSw); (try simp only [List.getElem_toArray, List.getElem_cons_succ, List.getElem_cons_zero]); go_simp) <;> (with_reducible rfl)
          try simp only [List.getElem_toArray, List.getElem_cons_succ, List.getElem_cons_zero, Act.put, List.setIfInBounds_toArray, List.set_cons_zero, List.set_cons_succ]
          refine tk 27 rfl (by kernel_rfl) hHeld (fun _ _ _ h => h) (v := ?_) ?_ ?_
          rotate_left 1
          · (intro w hSw; (try dsimp only at hSw); (try simp only [List.getElem_toArray, List.getElem_cons_succ, List.getElem_cons_zero]); go_simp) <;> (with_reducible rfl)
          try simp only [List.getElem_toArray, List.getElem_cons_succ, List.getElem_cons_zero, Act.put, List.setIfInBounds_toArray, List.set_cons_zero, List.set_cons_succ]
          refine tk 28 rfl (by kernel_rfl) hHeld (fun _ _ _ h => h) (v := ?_) ?_ ?_
          rotate_left 1
          · (intro w hSw; (try dsimp only at hSw); (try simp only [List.getElem_toArray, List.getElem_cons_succ, List.getElem_cons_zero]); go_simp) <;> (with_reducible rfl)
          try simp only [List.getElem_toArray, List.getElem_cons_succ, List.getElem_cons_zero, Act.put, List.setIfInBounds_toArray, List.set_cons_zero, List.set_cons_succ]
          refine tk 29 rfl (by kernel_rfl) hHeld (fun _ _ _ h => h) (v := ?_) ?_ ?_
          rotate_left 1
          · (intro w hSw; (try dsimp only at hSw); (try simp only [List.getElem_toArray, List.getElem_cons_succ, List.getElem_cons_zero]); go_simp) <;> (with_reducible rfl)
          try simp only [List.getElem_toArray, List.getElem_cons_succ, List.getElem_cons_zero, Act.put, List.setIfInBounds_toArray, List.set_cons_zero, List.set_cons_succ]
          refine tk 30 rfl (by kernel_rfl) hHeld (fun _ _ _ h => h) (v := ?_) ?_ ?_
          rotate_left 1
          · (intro w hSw; (try dsimp only at hSw); (try simp only [List.getElem_toArray, List.getElem_cons_succ, List.getElem_cons_zero]); go_simp) <;> (with_reducible rfl)
          try simp only [List.getElem_toArray, List.getElem_cons_succ, List.getElem_cons_zero, Act.put, List.setIfInBounds_toArray, List.set_cons_zero, List.set_cons_succ]
          refine tk 31 rfl (by kernel_rfl) hHeld (fun _ _ _ h => h) (v := ?_) ?_ ?_
          rotate_left 1
          · (intro w hSw; (try dsimp only at hSw); (try simp only [List.getElem_toArray, List.getElem_cons_succ, List.getElem_cons_zero]); go_simp) <;> (with_reducible rfl)
          try simp only [List.getElem_toArray, List.getElem_cons_succ, List.getElem_cons_zero, Act.put, List.setIfInBounds_toArray, List.set_cons_zero, List.set_cons_succ]
          refine tk 32 rfl (by kernel_rfl) hHeld (fun _ _ _ h => h) (v := ?_) ?_ ?_
          rotate_left 1
          · (intro w hSw; (try dsimp only at hSw); (try simp only [List.getElem_toArray, List.getElem_cons_succ, List.getElem_cons_zero]); go_simp) <;> (with_reducible rfl)
          try simp only [List.getElem_toArray, List.getElem_cons_succ, List.getElem_cons_zero, Act.put, List.setIfInBounds_toArray, List.set_cons_zero, List.set_cons_succ]
          refine tk 33 rfl (by kernel_rfl) hHeld (fun _ _ _ h => h) (v := ?_) ?_ ?_
          rotate_left 1
          · (intro w hSw; (try dsimp only at hSw); (try simp only [List.getElem_toArray, List.getElem_cons_succ, List.getElem_cons_zero]); go_simp) <;> (with_reducible rfl)
          try simp only [List.getElem_toArray, List.getElem_cons_succ, List.getElem_cons_zero, Act.put, List.setIfInBounds_toArray, List.set_cons_zero, List.set_cons_succ]
          refine tk 34 rfl (by kernel_rfl) hHeld (fun _ _ _ h => h) (v := ?_) ?_ ?_
          rotate_left 1
          · (intro w hSw; (try dsimp only at hSw); (try simp only [List.getElem_toArray, List.getElem_cons_succ, List.getElem_cons_zero]); go_simp) <;> (with_reducible rfl)
          try simp only [List.getElem_toArray, List.getElem_cons_succ, List.getElem_cons_zero, Act.put, List.setIfInBounds_toArray, List.set_cons_zero, List.set_cons_succ]
          refine tk 35 rfl (by kernel_rfl) hHeld (fun _ _ _ h => h) (v := ?_) ?_ ?_
          rotate_left 1
          · (intro w hSw; (try dsimp only at hSw); (try simp only [List.getElem_toArray, List.getElem_cons_succ, List.getElem_cons_zero]); go_simp) <;> (with_reducible rfl)
          try simp only [List.getElem_toArray, List.getElem_cons_succ, List.getElem_cons_zero, Act.put, List.setIfInBounds_toArray, List.set_cons_zero, List.set_cons_succ]
          refine tk 36 rfl (by kernel_rfl) hHeld (fun _ _ _ h => h) (v := ?_) ?_ ?_
          rotate_left 1
          · (intro w hSw; (try dsimp only at hSw); (try simp only [List.getElem_toArray, List.getElem_cons_succ, List.getElem_cons_zero]); go_simp) <;> (with_reducible rfl)
          try simp only [List.getElem_toArray, List.getElem_cons_succ, List.getElem_cons_zero, Act.put, List.setIfInBounds_toArray, List.set_cons_zero, List.set_cons_succ]
          refine tk 37 rfl (by kernel_rfl) hHeld (fun _ _ _ h => h) (v := ?_) ?_ ?_
          rotate_left 1
          · (intro w hSw; (try dsimp only at hSw); (try simp only [List.getElem_toArray, List.getElem_cons_succ, List.getElem_cons_zero]); go_simp) <;> (with_reducible rfl)
          try simp only [List.getElem_toArray, List.getElem_cons_succ, List.getElem_cons_zero, Act.put, List.setIfInBounds_toArray, List.set_cons_zero, List.set_cons_succ]
          refine tk 38 rfl (by kernel_rfl) hHeld (fun _ _ _ h => h) (v := ?_) ?_ ?_
          rotate_left 1
          · (intro w hSw; (try dsimp only at hSw); (try simp only [List.getElem_toArray, List.getElem_cons_succ, List.getElem_cons_zero]); go_simp) <;> (with_reducible rfl)
          try simp only [List.getElem_toArray, List.getElem_cons_succ, List.getElem_cons_zero, Act.put, List.setIfInBounds_toArray, List.set_cons_zero, List.set_cons_succ]
          refine tk 39 rfl (by kernel_rfl) hHeld (fun _ _ _ h => h) (v := ?_) ?_ ?_
          rotate_left 1
          · (intro w hSw; (try dsimp only at hSw); (try simp only [List.getElem_toArray, List.getElem_cons_succ, List.getElem_cons_zero]); go_simp) <;> (with_reducible rfl)
          try simp only [List.getElem_toArray, List.getElem_cons_succ, List.getElem_cons_zero, Act.put, List.setIfInBounds_toArray, List.set_cons_zero, List.set_cons_succ]
          refine tk 40 rfl (by kernel_rfl) hHeld (fun _ _ _ h => h) (v := ?_) ?_ ?_
          rotate_left 1
          · (intro w hSw; (try dsimp only at hSw); (try simp only [List.getElem_toArray, List.getElem_cons_succ, List.getElem_cons_zero]); go_simp) <;> (with_reducible rfl)
          try simp only [List.getElem_toArray, List.getElem_cons_succ, List.getElem_cons_zero, Act.put, List.setIfInBounds_toArray, List.set_cons_zero, List.set_cons_succ]
          refine tk 41 rfl (by kernel_rfl) hHeld (fun _ _ _ h => h) (v := ?_) ?_ ?_
          rotate_left 1
          · (intro w hSw; (try dsimp only at hSw); (try simp only [List.getElem_toArray, List.getElem_cons_succ, List.getElem_cons_zero]); go_simp) <;> (with_reducible rfl)
          try simp only [List.getElem_toArray, List.getElem_cons_succ, List.getElem_cons_zero, Act.put, List.setIfInBounds_toArray, List.set_cons_zero, List.set_cons_succ]
          refine tk 42 rfl (by kernel_rfl) hHeld (fun _ _ _ h => h) (v := ?_) ?_ ?_
          rotate_left 1
          · (intro w hSw; (try dsimp only at hSw); (try simp only [List.getElem_toArray, List.getElem_cons_succ, List.getElem_cons_zero]); go_simp) <;> (with_reducible rfl)
          try simp only [List.getElem_toArray, List.getElem_cons_succ, List.getElem_cons_zero, Act.put, List.setIfInBounds_toArray, List.set_cons_zero, List.set_cons_succ]
          refine tk 43 rfl (by kernel_rfl) hHeld (fun _ _ _ h => h) (v := ?_) ?_ ?_
          rotate_left 1
          · (intro w hSw; (try dsimp only at hSw); (try simp only [List.getElem_toArray, List.getElem_cons_succ, List.getElem_cons_zero]); go_simp) <;> (with_reducible rfl)
          try simp only [List.getElem_toArray, List.getElem_cons_succ, List.getElem_cons_zero, Act.put, List.setIfInBounds_toArray, List.set_cons_zero, List.set_cons_succ]
          refine tk 44 rfl (by kernel_rfl) hHeld (fun _ _ _ h => h) (v := ?_) ?_ ?_
          rotate_left 1
          · (intro w hSw; (try dsimp only at hSw); (try simp only [List.getElem_toArray, List.getElem_cons_succ, List.getElem_cons_zero]); go_simp) <;> (with_reducible rfl)
          try simp only [List.getElem_toArray, List.getElem_cons_succ, List.getElem_cons_zero, Act.put, List.setIfInBounds_toArray, List.set_cons_zero, List.set_cons_succ]
          refine tk 45 rfl (by kernel_rfl) hHeld (fun _ _ _ h => h) (v := ?_) ?_ ?_
          rotate_left 1
          · (intro w hSw; (try dsimp only at hSw); (try simp only [List.getElem_toArray, List.getElem_cons_succ, List.getElem_cons_zero]); go_simp) <;> (with_reducible rfl)
          try simp only [List.getElem_toArray, List.getElem_cons_succ, List.getElem_cons_zero, Act.put, List.setIfInBounds_toArray, List.set_cons_zero, List.set_cons_succ]
          refine tk 46 rfl (by kernel_rfl) hHeld (fun _ _ _ h => h) (v := ?_) ?_ ?_
          rotate_left 1
          · (intro w hSw; (try dsimp only at hSw); (try simp only [List.getElem_toArray, List.getElem_cons_succ, List.getElem_cons_zero]); go_simp) <;> (with_reducible rfl)
          try simp only [List.getElem_toArray, List.getElem_cons_succ, List.getElem_cons_zero, Act.put, List.setIfInBounds_toArray, List.set_cons_zero, List.set_cons_succ]
          refine tk 47 rfl (by kernel_rfl) hHeld (fun _ _ _ h => h) (v := ?_) ?_ ?_
          rotate_left 1
          · (intro w hSw; (try dsimp only at hSw); (try simp only [List.getElem_toArray, List.getElem_cons_succ, List.getElem_cons_zero]); go_simp) <;> (with_reducible rfl)
          try simp only [List.getElem_toArray, List.getElem_cons_succ, List.getElem_cons_zero, Act.put, List.setIfInBounds_toArray, List.set_cons_zero, List.set_cons_succ]
          refine tk 49 rfl (by kernel_rfl) hHeld (fun _ _ _ h => h) (v := ?_) ?_ ?_
          rotate_left 1
          · (intro w hSw; (try dsimp only at hSw); (try simp only [List.getElem_toArray, List.getElem_cons_succ, List.getElem_cons_zero]); go_simp) <;> (with_reducible rfl)
          try simp only [List.getElem_toArray, List.getElem_cons_succ, List.getElem_cons_zero, Act.put, List.setIfInBounds_toArray, List.set_cons_zero, List.set_cons_succ]
          refine tk 50 rfl (by kernel_rfl) hHeld (fun _ _ _ h => h) (v := ?_) ?_ ?_
          rotate_left 1
          · (intro w hSw; (try dsimp only at hSw); (try simp only [List.getElem_toArray, List.getElem_cons_succ, List.getElem_cons_zero]); go_simp) <;> (with_reducible rfl)
          try simp only [List.getElem_toArray, List.getElem_cons_succ, List.getElem_cons_zero, Act.put, List.setIfInBounds_toArray, List.set_cons_zero, List.set_cons_succ]
          refine wpAnyH_ready (rs := [48]) (by kernel_rfl) (by simp) (AllReadyH.cons rfl (fun K hK => ?_) AllReadyH.nil)
          simp only [List.getElem_toArray, List.getElem_cons_succ, List.getElem_cons_zero]
          go_simp
          go_at_call 32
          refine (MV2.out wd (H5b.out.below bd).i.items (SI8.out.below bd SI8.out.lt).by_ (by have := SI8.out.lt; have := bd.size; omega)).mono ?_
          rintro e wa ⟨A9, c9, rfl, hc9, own9, bz⟩
          try go_wp2_with fail
          have ba := bd.trans (bz.mono bd.size)
          have U9 := Lib.hid (Q.us_mv own9 (fun m hm => ((H5b.out.below ba).i.items.el m hm)))
          refine hK.out _ _ (CELL.out _ ba) (fun hHeld => ?_)
          clear hK K bz own9 hc9
          try simp only [List.getElem_toArray, List.getElem_cons_succ, List.getElem_cons_zero, Act.put, List.setIfInBounds_toArray, List.set_cons_zero, List.set_cons_succ]
          refine wpAnyH_ready (rs := [51]) (by kernel_rfl) (by simp) (AllReadyH.cons rfl (fun K hK => ?_) AllReadyH.nil)
          simp only [List.getElem_toArray, List.getElem_cons_succ, List.getElem_cons_zero]
          go_simp
          go_at_call 31
          have SU := sameuts_any A9 ai8 c9 ci8 wa.heap.size (it5.map (fun x => Q.Um.mv x x1)) it8 wa U9.out (H8.out.below ba).i.items (Nat.le_refl _) (by rw [IT.out, List.map_map, List.map_map]; rfl) (by rw [List.length_map]; unfold maxLen; omega) (fun m hm => by obtain ⟨x, hx, rfl⟩ := List.mem_map.1 hm; exact (SX.out.2.2 x.u (List.mem_map.2 ⟨x, hx, rfl⟩)).ok)
          rw [List.length_map] at SU
          refine SU.mono ?_
          clear SU
          rintro e wb ⟨rfl, bz⟩
          try go_wp2_with fail
          have bb := ba.trans (bz.mono ba.size)
          refine hK.out _ _ (CELL.out _ bb) (fun hHeld => ?_)
          clear hK K bz
          try simp only [List.getElem_toArray, List.getElem_cons_succ, List.getElem_cons_zero, Act.put, List.setIfInBounds_toArray, List.set_cons_zero, List.set_cons_succ]
          refine tk 52 rfl (by kernel_rfl) hHeld (fun _ _ _ h => h) (v := ?_) ?_ ?_
          rotate_left 1
          · (intro w hSw; (try dsimp only at hSw); (try simp only [List.getElem_toArray, List.getElem_cons_succ, List.getElem_cons_zero]); go_simp) <;> (with_reducible rfl)
          try simp only [List.getElem_toArray, List.getElem_cons_succ, List.getElem_cons_zero, Act.put, List.setIfInBounds_toArray, List.set_cons_zero, List.set_cons_succ]
          refine tk 53 rfl (by kernel_rfl) hHeld (fun _ _ _ h => h) (v := ?_) ?_ ?_
          rotate_left 1
          · (intro w hSw; (try dsimp only at hSw); (try simp only [List.getElem_toArray, List.getElem_cons_succ, List.getElem_cons_zero]); go_simp) <;> (with_reducible rfl)
          try simp only [List.getElem_toArray, List.getElem_cons_succ, List.getElem_cons_zero, Act.put, List.setIfInBounds_toArray, List.set_cons_zero, List.set_cons_succ]
          refine wpAnyH_done (by kernel_rfl) ?_ _
          have BB := Lib.hid bb
          clear bb ba bd
          go_wp2_with fail
          go_loopw [160] (fun v wr => ∃ k : Nat, k ≤ ss5.length ∧ v = .int .i64 k ∧ Hid (Below W9.heap.size W9 wr)) (fun v _ => ss5.length - (intOf v).toNat)
          case atStart => exact ⟨0, Nat.zero_le _, rfl, BB⟩
          case round =>
            obtain ⟨k, hk, rfl, hB⟩ := hrel
            by_cases hlt : k < ss5.length
            · have hr5 : Reads _ _ 8 A5 ss5.length (Q.scs ss5) := (R5b.out.on hB.out).row
              have hr8 : Reads _ _ 8 A8 ss8.length (Q.scs ss8) := (R8.out.on hB.out).row
              have hlt8 : k < ss8.length := by have := HLS.out; omega
              obtain ⟨p1_, o1, rfl, _, hcl1⟩ := Q.reads_sp hr5 (Nat.lt_of_le_of_lt (Nat.zero_le k) hlt)
              obtain ⟨p2_, o2, rfl, _, hcl2⟩ := Q.reads_sp hr8 (Nat.lt_of_le_of_lt (Nat.zero_le k) hlt8)
              obtain ⟨_, _, _, _, _, r5, r6, _⟩ := hcl1 k hlt
              obtain ⟨_, _, _, _, _, g5, g6, _⟩ := hcl2 k hlt8
              have za := (SI8.out.below hB.out SI8.out.lt).by_
              have q0 : decide ((k : Int) < (ss5.length : Int)) = true := decide_eq_true (by omega)
              have q1 : (0 : Int) ≤ (k : Int) := by omega
              have q2 : (k : Int) < (ss5.length : Int) := by omega
              have q3 : (k : Int) < (ss8.length : Int) := by omega
              have hk1 : k + 1 ≤ 9 := by omega
              have hb := XB.out (ss5[k].a) (by rw [← ES5.out]; exact List.mem_map.2 ⟨_, List.getElem_mem hlt, rfl⟩)
              have hee : ss8[k].a = (ss5[k].a).mv x1 := by
                have h1 := congrArg (fun l => l[k]?) ES8.out
                rw [← ES5.out] at h1
                simpa [hlt, hlt8] using h1
              have hbe : ss8[k].be = ss5[k].be + x1 := congrArg Q.Sa.be hee
              have hen : ss8[k].en = ss5[k].en + x1 := congrArg Q.Sa.en hee
              simp only [Q.Sm.a] at hb
              obtain ⟨y1, hy1⟩ : ∃ y, ss5[k].be = y := ⟨_, rfl⟩
              obtain ⟨y2, hy2⟩ : ∃ y, ss5[k].en = y := ⟨_, rfl⟩
              rw [hbe, hy1] at g5
              rw [hen, hy2] at g6
              rw [hy1] at r5 hb
              rw [hy2] at r6 hb
              have w6_ : IntKind.i64.wrap (y1 + x1) = y1 + x1 := by have := LX.out; have := TT.out; simp [IntKind.wrap, IntKind.bits, IntKind.signed]; omega
              have w7_ : IntKind.i64.wrap (y2 + x1) = y2 + x1 := by have := LX.out; have := TT.out; simp [IntKind.wrap, IntKind.bits, IntKind.signed]; omega
              clear hr5 hr8 hcl1 hcl2 hb hee hbe hen hy1 hy2
              go_wp2_with fail
              go_quiet (fail)
              go_wp2
              go_roundw
              case rel => exact ⟨k + 1, by omega, by go_num, Lib.hid (below_drewN hB.out _)⟩
              case measure => simp [intOf] <;> omega
            · have q0 : decide ((k : Int) < (ss5.length : Int)) = false := decide_eq_false (by omega)
              go_wp2_with (first
                | (go_at_call 13; go_loud ((refine (AWK.out _).mono ?_); (rintro e wE ⟨rfl, bE⟩); (have BE := Lib.hid ((SI8.out.b.trans (hB.out.mono SI8.out.b.size)).trans (bE.mono (Nat.le_trans SI8.out.b.size hB.out.size)))); (clear bE))))
              go_ret
              exact ⟨rfl, BE.out⟩
      | true =>
        have hpp := (Q.chk_proper CK.out).sp rfl
        have hckq := (Q.chk_proper CK.out).ck
        simp only [Q.Qm.a] at hpp hckq
        have haf := Q.pr_af hpp.1
        simp only at haf
        obtain ⟨be1, hbe1⟩ : ∃ x, be + x1 = x := ⟨_, rfl⟩
        obtain ⟨en1, hen1⟩ : ∃ x, en + x1 = x := ⟨_, rfl⟩
        obtain ⟨p31, hp31⟩ : ∃ x, p3 + x1 = x := ⟨_, rfl⟩
        have wb_ : IntKind.i64.wrap (be + x1) = be1 := by have := LX.out; simp [IntKind.wrap, IntKind.bits, IntKind.signed]; omega
        have we_ : IntKind.i64.wrap (en + x1) = en1 := by have := LX.out; have := LEe.out; simp [IntKind.wrap, IntKind.bits, IntKind.signed]; omega
        have wp_ : IntKind.i64.wrap (p3 + x1) = p31 := by have := LX.out; simp [IntKind.wrap, IntKind.bits, IntKind.signed]; omega
        have HBE : Hid (be + x1 = be1 ∧ en + x1 = en1 ∧ p3 + x1 = p31) := Lib.hid ⟨hbe1, hen1, hp31⟩
        clear hpp hckq haf hbe1 hen1 hp31
        have zA := (SR.out.below (below_box wr (.cells #[.int .i64 ck, .int .i64 rt, .bool true, .slice a0 p0.length c0, .slice a1 p1.length c1, .int .i64 p2, .int .i64 p3, .int .i64 p4, .int .i64 be, .int .i64 en, .slice ai it.length ci] 28)) SR.out.lt).by_
        have sB := SR.out.below (below_box wr (.cells #[.int .i64 s1, .int .i64 rt, .bool true, .slice a0 p0.length c0, .slice a1 p1.length c1, .int .i64 p2, .int .i64 p3, .int .i64 p4, .int .i64 be, .int .i64 en, .slice ai it.length ci] 28)) SR.out.lt
        obtain ⟨kb0, kb1, kb2, kb3, kb4, kb5, kb6, kb7, kb8, kb9, kb10⟩ := Q.hq_cells sB.hq
        have zB := sB.by_
        clear sB
        go_wp2_with (first
          | (go_at_call 32; go_loud ((have sx := SR.out.below (below_box wr (.cells #[.int .i64 s1, .int .i64 rt, .bool true, .slice a0 p0.length c0, .slice a1 p1.length c1, .int .i64 p2, .int .i64 p3, .int .i64 p4, .int .i64 be, .int .i64 en, .slice ai it.length ci] 28)) SR.out.lt); (refine (MV.out _ (sx.i.items.more (by have := sx.lt; omega)) sx.by_ (by have := sx.lt; omega)).mono ?_); (rintro e w4 ⟨A4, c4, rfl, hc4, own4, b4⟩); (have S4 := sx.below b4 sx.lt); (have V4 := (b4.block wr.heap.size (by simp)).trans (heap_alloc_new wr (.cells #[.int .i64 s1, .int .i64 rt, .bool true, .slice a0 p0.length c0, .slice a1 p1.length c1, .int .i64 p2, .int .i64 p3, .int .i64 p4, .int .i64 be, .int .i64 en, .slice ai it.length ci] 28))); (have y10 := cell_of_block_ (i := 10) V4); (have f10 := unfrozen_of_block V4 10); (simp at y10); (have V5 := block_setCell (i := 10) V4 (.slice A4 it.length c4)); (simp at V5); (obtain ⟨im, him⟩ : ∃ im, it.map (fun x => Q.Um.mv x x1) = im := ⟨_, rfl⟩); (have hil : it.length = im.length := by rw [← him, List.length_map]); (have hg5 : w4.grownBy (w4.setCell ⟨wr.heap.size, 10, none⟩ (.slice A4 it.length c4)) (some wr.heap.size) := only_setCell (World.grownBy.refl w4 (some wr.heap.size)) (.inl rfl) _); (have own5 := own_far own4 V4 (by decide) hg5); (have hs4 : wr.heap.size + 1 ≤ w4.heap.size := by have := b4.size; simpa using this); (have hb5 := below_of_only hg5 (Nat.le_refl _) (by omega)); (have S5 := S4.below hb5 SR.out.lt); (obtain ⟨w5, hw5⟩ : ∃ w5, w4.setCell ⟨wr.heap.size, 10, none⟩ (.slice A4 it.length c4) = w5 := ⟨_, rfl⟩); (rw [hw5] at V5 S5 own5 hb5 hg5); (have HIL := Lib.hid hil); (have HIM := Lib.hid him); (rw [hil] at V5); (clear hil him); (have s5 : wr.heap.size + 1 ≤ w5.heap.size := Nat.le_trans hs4 hb5.size); (obtain ⟨k0, k1, k2, k3, k4, k5, k6, k7, k8, k9, k10⟩ := Q.hq_cells S5.hq); (have zz5 := S5.by_); (have m0 := cell_of_block_ (i := 0) V5); (have m1 := cell_of_block_ (i := 1) V5); (have m2 := cell_of_block_ (i := 2) V5); (have m3 := cell_of_block_ (i := 3) V5); (have m4 := cell_of_block_ (i := 4) V5); (have m5 := cell_of_block_ (i := 5) V5); (have m6 := cell_of_block_ (i := 6) V5); (have m7 := cell_of_block_ (i := 7) V5); (have m8 := cell_of_block_ (i := 8) V5); (have m9 := cell_of_block_ (i := 9) V5); (have m10 := cell_of_block_ (i := 10) V5); (simp at m0 m1 m2 m3 m4 m5 m6 m7 m8 m9 m10); (have V5h := Lib.hid V5); (have SI5 := Lib.hid S5); (have OW5 := Lib.hid (own_lower own5 (show wr.heap.size ≤ _ by simp))); (have s5h := Lib.hid s5); (have hc4h := Lib.hid hc4); (clear zA zB sx b4 own4 V4 S4 V5 hg5 own5 hs4 hb5 S5 s5 z0 hc4 ka0 ka1 ka2 ka3 ka4 ka5 ka6 ka7 ka8 ka9 ka10 kb0 kb1 kb2 kb3 kb4 kb5 kb6 kb7 kb8 kb9 kb10))))
        have V5 := V5h.out
        obtain ⟨wd, hwd⟩ : ∃ x, w5.drew = x := ⟨_, rfl⟩
        have hd3 : Below w5.heap.size w5 wd := by rw [← hwd]; exact (Below.refl _ w5).drew
        have Vd := (hd3.block wr.heap.size (Array.getElem?_eq_some_iff.1 V5).1).trans V5
        have Sd := SI5.out.below hd3 SI5.out.lt
        have Od : wd.ownsRow wr.heap.size 25 5 (.slice A4 it.length c4) it.length (Q.ucs (it.map (·.mv x1))) := by rw [← hwd]; exact OW5.out.drew
        clear hd3 k0 k1 k2 k3 k4 k5 k6 k7 k8 k9 k10 m0 m1 m2 m3 m4 m5 m6 m7 m8 m9 m10 zz5
        obtain ⟨kc0, kc1, kc2, kc3, kc4, kc5, kc6, kc7, kc8, kc9, kc10⟩ := Q.hq_cells Sd.hq
        have zc := Sd.by_
        have mc8 := cell_of_block_ (i := 8) Vd
        simp at mc8
        have fm8 := unfrozen_of_block Vd 8
        have A8 := block_setCell (i := 8) Vd (.int .i64 be1)
        simp at A8
        have gg1 : wd.grownBy (wd.setCell ⟨wr.heap.size, 8, none⟩ (.int .i64 be1)) (some wr.heap.size) := only_setCell (World.grownBy.refl wd (some wr.heap.size)) (.inl rfl) _
        have hh1 := below_of_only gg1 (Nat.le_refl wr.heap.size) (Nat.le_of_lt (Array.getElem?_eq_some_iff.1 Vd).1)
        have S8a := Sd.below hh1 SR.out.lt
        have O8a := own_far Od Vd (by decide) gg1
        obtain ⟨wa1, hwa1⟩ : ∃ x, wd.setCell ⟨wr.heap.size, 8, none⟩ (.int .i64 be1) = x := ⟨_, rfl⟩
        rw [hwa1] at A8 S8a O8a hh1
        clear gg1 hh1
        obtain ⟨kd0, kd1, kd2, kd3, kd4, kd5, kd6, kd7, kd8, kd9, kd10⟩ := Q.hq_cells S8a.hq
        have zd := S8a.by_
        have md9 := cell_of_block_ (i := 9) A8
        simp at md9
        have fm9 := unfrozen_of_block A8 9
        have A9 := block_setCell (i := 9) A8 (.int .i64 en1)
        simp at A9
        have gg2 : wa1.grownBy (wa1.setCell ⟨wr.heap.size, 9, none⟩ (.int .i64 en1)) (some wr.heap.size) := only_setCell (World.grownBy.refl wa1 (some wr.heap.size)) (.inl rfl) _
        have hh2 := below_of_only gg2 (Nat.le_refl wr.heap.size) (Nat.le_of_lt (Array.getElem?_eq_some_iff.1 A8).1)
        have S9a := S8a.below hh2 SR.out.lt
        have O9a := own_far O8a A8 (by decide) gg2
        obtain ⟨wa2, hwa2⟩ : ∃ x, wa1.setCell ⟨wr.heap.size, 9, none⟩ (.int .i64 en1) = x := ⟨_, rfl⟩
        rw [hwa2] at A9 S9a O9a hh2
        clear gg2 hh2
        obtain ⟨ke0, ke1, ke2, ke3, ke4, ke5, ke6, ke7, ke8, ke9, ke10⟩ := Q.hq_cells S9a.hq
        have ze := S9a.by_
        have me6 := cell_of_block_ (i := 6) A9
        simp at me6
        have fm6 := unfrozen_of_block A9 6
        have A11 := block_setCell (i := 6) A9 (.int .i64 p31)
        simp at A11
        have gg3 : wa2.grownBy (wa2.setCell ⟨wr.heap.size, 6, none⟩ (.int .i64 p31)) (some wr.heap.size) := only_setCell (World.grownBy.refl wa2 (some wr.heap.size)) (.inl rfl) _
        have hh3 := below_of_only gg3 (Nat.le_refl wr.heap.size) (Nat.le_of_lt (Array.getElem?_eq_some_iff.1 A9).1)
        have S11 := S9a.below hh3 SR.out.lt
        have O11 := own_far O9a A9 (by decide) gg3
        obtain ⟨w6, hw6⟩ : ∃ x, wa2.setCell ⟨wr.heap.size, 6, none⟩ (.int .i64 p31) = x := ⟨_, rfl⟩
        rw [hw6] at A11 S11 O11 hh3
        clear gg3 hh3
        have HC : Hid ((w5.drew = wd) ∧ (wd.setCell ⟨wr.heap.size, 8, none⟩ (.int .i64 be1) = wa1) ∧ (wa1.setCell ⟨wr.heap.size, 9, none⟩ (.int .i64 en1) = wa2)) := Lib.hid ⟨hwd, hwa1, hwa2⟩
        have HM : Hid (Q.HQ w6 wr.heap.size (⟨s1, rt, true, ⟨⟨p0, p1, p2, p31, p4⟩, a0, c0, a1, c1⟩, be1, en1, im, A4, c4⟩ : Q.Qm)) := Lib.hid ⟨A11, ⟨S11.i.cur.more (by have := S11.lt; omega) |> fun h => ⟨h.w, h.c, h.hw, h.hc⟩, by rw [← HIM.out]; exact Q.us_mv O11 (fun m hm => (S11.i.items.el m hm).more (by have := S11.lt; omega)), by rw [← HIM.out]; simpa using hc4h.out⟩⟩
        have HMA : Hid ((⟨s1, rt, true, ⟨⟨p0, p1, p2, p31, p4⟩, a0, c0, a1, c1⟩, be1, en1, im, A4, c4⟩ : Q.Qm).a = Q.Qa.mv (⟨ck, rt, true, ⟨⟨p0, p1, p2, p3, p4⟩, a0, c0, a1, c1⟩, be, en, it, ai, ci⟩ : Q.Qm).a x1) := Lib.hid (by rw [← HIM.out, ← HS1.out, ← HBE.out.1, ← HBE.out.2.1, ← HBE.out.2.2]; simp only [Q.Qm.a, Q.Qa.mv, if_true, List.map_map]; rfl)
        obtain ⟨kk0, kk1, kk2, kk3, kk4, kk5, kk6, kk7, kk8, kk9, kk10⟩ := Q.hq_cells S11.hq
        obtain ⟨mm0, mm1, mm2, mm3, mm4, mm5, mm6, mm7, mm8, mm9, mm10⟩ := Q.hq_cells HM.out
        have zz6 := S11.by_
        have SI6 := Lib.hid S11
        clear V5 V5h OW5 SI5 s5h hc4h Vd Sd Od A8 S8a O8a A9 S9a O9a A11 S11 O11
        have AD2 := Lib.hid (fun (W : World) (h : Q.QIn W W.heap.size (⟨s1, rt, true, ⟨⟨p0, p1, p2, p31, p4⟩, a0, c0, a1, c1⟩, be1, en1, im, A4, c4⟩ : Q.Qm)) => Q.advance_hq (t2 + x1) h (by rw [HMA.out]; exact Q.mv_sml SM.out x1) (by rw [HMA.out]; exact MVC.out))
        rw [HMA.out, MVA.out] at AD2
        simp only [Q.Qm.cells] at AD2
        clear HMA MVA MVC
        refine wp_normal ?_
        refine wp_region_held_drew (S := fun w' => w'.cell? ⟨w.heap.size, 8, none⟩ = some (.int .i64 be) ∧ w'.cell? ⟨w.heap.size, 9, none⟩ = some (.int .i64 en) ∧ w'.cell? ⟨w.heap.size + 1, 0, none⟩ = some (.int .u32 x1)) (by kernel_rfl) (by rw [hwd]; exact ⟨kc8, kc9, zc⟩) (fun hHeld => ?_)
        rw [hwd] at hHeld ⊢
        refine tk 0 rfl (by kernel_rfl) hHeld (fun _ _ _ h => h) (v := ?_) ?_ ?_
        rotate_left 1
        · (intro w hSw; (try dsimp only at hSw); (try simp only [List.getElem_toArray, List.getElem_cons_succ, List.getElem_cons_zero]); go_simp) <;> (with_reducible rfl)
        try simp only [List.getElem_toArray, List.getElem_cons_succ, List.getElem_cons_zero, Act.put, List.setIfInBounds_toArray, List.set_cons_zero, List.set_cons_succ]
        refine tk 1 rfl (by kernel_rfl) hHeld (fun _ _ _ h => h) (v := ?_) ?_ ?_
        rotate_left 1
        · (intro w hSw; (try dsimp only at hSw); (try simp only [List.getElem_toArray, List.getElem_cons_succ, List.getElem_cons_zero]); go_simp) <;> (with_reducible rfl)
        try simp only [List.getElem_toArray, List.getElem_cons_succ, List.getElem_cons_zero, Act.put, List.setIfInBounds_toArray, List.set_cons_zero, List.set_cons_succ]
        refine tk 2 rfl (by kernel_rfl) hHeld (fun _ _ _ h => h) (v := ?_) ?_ ?_
        rotate_left 1
        · (intro w hSw; (try dsimp only at hSw); (try simp only [List.getElem_toArray, List.getElem_cons_succ, List.getElem_cons_zero]); go_simp) <;> (with_reducible rfl)
        try simp only [List.getElem_toArray, List.getElem_cons_succ, List.getElem_cons_zero, Act.put, List.setIfInBounds_toArray, List.set_cons_zero, List.set_cons_succ]
        refine tk 3 rfl (by kernel_rfl) hHeld (fun _ _ _ h => h) (v := ?_) ?_ ?_
        rotate_left 1
        · (intro w hSw; (try dsimp only at hSw); (try simp only [List.getElem_toArray, List.getElem_cons_succ, List.getElem_cons_zero]); go_simp) <;> (with_reducible rfl)
        try simp only [List.getElem_toArray, List.getElem_cons_succ, List.getElem_cons_zero, Act.put, List.setIfInBounds_toArray, List.set_cons_zero, List.set_cons_succ]
        refine tk 4 rfl (by kernel_rfl) hHeld (fun _ _ _ h => h) (v := ?_) ?_ ?_
        rotate_left 1
        · (intro w hSw; (try dsimp only at hSw); (try simp only [List.getElem_toArray, List.getElem_cons_succ, List.getElem_cons_zero]); go_simp) <;> (with_reducible rfl)
        try simp only [List.getElem_toArray, List.getElem_cons_succ, List.getElem_cons_zero, Act.put, List.setIfInBounds_toArray, List.set_cons_zero, List.set_cons_succ]
        refine tk 5 rfl (by kernel_rfl) hHeld (fun _ _ _ h => h) (v := ?_) ?_ ?_
        rotate_left 1
        · (intro w hSw; (try dsimp only at hSw); (try simp only [List.getElem_toArray, List.getElem_cons_succ, List.getElem_cons_zero]); go_simp) <;> (with_reducible rfl)
        try simp only [List.getElem_toArray, List.getElem_cons_succ, List.getElem_cons_zero, Act.put, List.setIfInBounds_toArray, List.set_cons_zero, List.set_cons_succ]
        refine tk 6 rfl (by kernel_rfl) hHeld (fun _ _ _ h => h) (v := ?_) ?_ ?_
        rotate_left 1
        · (intro w hSw; (try dsimp only at hSw); (try simp only [List.getElem_toArray, List.getElem_cons_succ, List.getElem_cons_zero]); go_simp) <;> (with_reducible rfl)
        try simp only [List.getElem_toArray, List.getElem_cons_succ, List.getElem_cons_zero, Act.put, List.setIfInBounds_toArray, List.set_cons_zero, List.set_cons_succ]
        refine tk 7 rfl (by kernel_rfl) hHeld (fun _ _ _ h => h) (v := ?_) ?_ ?_
        rotate_left 1
        · (intro w hSw; (try dsimp only at hSw); (try simp only [List.getElem_toArray, List.getElem_cons_succ, List.getElem_cons_zero]); go_simp) <;> (with_reducible rfl)
        try simp only [List.getElem_toArray, List.getElem_cons_succ, List.getElem_cons_zero, Act.put, List.setIfInBounds_toArray, List.set_cons_zero, List.set_cons_succ]
        refine tk 8 rfl (by kernel_rfl) hHeld (fun _ _ _ h => h) (v := ?_) ?_ ?_
        rotate_left 1
        · (intro w hSw; (try dsimp only at hSw); (try simp only [List.getElem_toArray, List.getElem_cons_succ, List.getElem_cons_zero]); go_simp) <;> (with_reducible rfl)
        try simp only [List.getElem_toArray, List.getElem_cons_succ, List.getElem_cons_zero, Act.put, List.setIfInBounds_toArray, List.set_cons_zero, List.set_cons_succ]
        refine tk 9 rfl (by kernel_rfl) hHeld (fun _ _ _ h => h) (v := ?_) ?_ ?_
        rotate_left 1
        · (intro w hSw; (try dsimp only at hSw); (try simp only [List.getElem_toArray, List.getElem_cons_succ, List.getElem_cons_zero]); go_simp) <;> (with_reducible rfl)
        try simp only [List.getElem_toArray, List.getElem_cons_succ, List.getElem_cons_zero, Act.put, List.setIfInBounds_toArray, List.set_cons_zero, List.set_cons_succ]
        refine tk 10 rfl (by kernel_rfl) hHeld (fun _ _ _ h => h) (v := ?_) ?_ ?_
        rotate_left 1
        · (intro w hSw; (try dsimp only at hSw); (try simp only [List.getElem_toArray, List.getElem_cons_succ, List.getElem_cons_zero]); go_simp) <;> (with_reducible rfl)
        try simp only [List.getElem_toArray, List.getElem_cons_succ, List.getElem_cons_zero, Act.put, List.setIfInBounds_toArray, List.set_cons_zero, List.set_cons_succ]
        refine wpAnyH_ready (rs := [11]) (by kernel_rfl) (by simp) (AllReadyH.cons rfl (fun K hK => ?_) AllReadyH.nil)
        simp only [List.getElem_toArray, List.getElem_cons_succ, List.getElem_cons_zero]
        go_simp
        refine hK.out _ _ ⟨kd8, kd9, zd⟩ (fun hHeld => ?_)
        clear hK K
        try simp only [List.getElem_toArray, List.getElem_cons_succ, List.getElem_cons_zero, Act.put, List.setIfInBounds_toArray, List.set_cons_zero, List.set_cons_succ]
        refine tk 12 rfl (by kernel_rfl) hHeld (fun _ _ _ h => h) (v := ?_) ?_ ?_
        rotate_left 1
        · (intro w hSw; (try dsimp only at hSw); (try simp only [List.getElem_toArray, List.getElem_cons_succ, List.getElem_cons_zero]); go_simp) <;> (with_reducible rfl)
        try simp only [List.getElem_toArray, List.getElem_cons_succ, List.getElem_cons_zero, Act.put, List.setIfInBounds_toArray, List.set_cons_zero, List.set_cons_succ]
        refine wpAnyH_ready (rs := [13]) (by kernel_rfl) (by simp) (AllReadyH.cons rfl (fun K hK => ?_) AllReadyH.nil)
        simp only [List.getElem_toArray, List.getElem_cons_succ, List.getElem_cons_zero]
        go_simp
        refine hK.out _ _ ⟨ke8, ke9, ze⟩ (fun hHeld => ?_)
        clear hK K
        try simp only [List.getElem_toArray, List.getElem_cons_succ, List.getElem_cons_zero, Act.put, List.setIfInBounds_toArray, List.set_cons_zero, List.set_cons_succ]
        refine wpAnyH_done (by kernel_rfl) ?_ _
        go_wp2_with (first
          | (go_at_call 24; go_loud ((refine (AD1.out _ SI6.out.hq.i).mono ?_); (rintro e w7 ⟨⟨ck5, rt5, sp5, ⟨⟨p05, p15, p25, p35, p45⟩, a05, c05, a15, c15⟩, be5, en5, it5, ai5, ci5⟩, A5, d5, ss5, rfl, e5, es5, i5, r5, hd5, bb⟩); (simp only at e5 es5); (have bx := below_box w7 (.cells #[.int .i64 ck5, .int .i64 rt5, .bool sp5, .slice a05 p05.length c05, .slice a15 p15.length c15, .int .i64 p25, .int .i64 p35, .int .i64 p45, .int .i64 be5, .int .i64 en5, .slice ai5 it5.length ci5] 28)); (have sa := (SI6.out.below bb SI6.out.lt).below bx (Nat.le_trans SI6.out.lt bb.size)); (obtain ⟨ka0, ka1, ka2, ka3, ka4, ka5, ka6, ka7, ka8, ka9, ka10⟩ := Q.hq_cells sa.hq); (have za := sa.by_); (have hm := (HM.out.below bb).below bx); (obtain ⟨kb0, kb1, kb2, kb3, kb4, kb5, kb6, kb7, kb8, kb9, kb10⟩ := Q.hq_cells hm); (have SI7 := Lib.hid sa); (have HM7 := Lib.hid hm); (clear sa hm SI6 HM AD1 kk0 kk1 kk2 kk3 kk4 kk5 kk6 kk7 kk8 kk9 kk10 mm0 mm1 mm2 mm3 mm4 mm5 mm6 mm7 mm8 mm9 mm10 kc0 kc1 kc2 kc3 kc4 kc5 kc6 kc7 kc8 kc9 kc10 kd0 kd1 kd2 kd3 kd4 kd5 kd6 kd7 kd8 kd9 kd10 ke0 ke1 ke2 ke3 ke4 ke5 ke6 ke7 ke8 ke9 ke10 zz6 zc zd ze mc8 md9 me6 fm6 fm8 fm9 hw6); (have H5 := Lib.hid (Q.HQ.new (W := w7) (C := #[.int .i64 ck5, .int .i64 rt5, .bool sp5, .slice a05 p05.length c05, .slice a15 p15.length c15, .int .i64 p25, .int .i64 p35, .int .i64 p45, .int .i64 be5, .int .i64 en5, .slice ai5 it5.length ci5]) (q := (⟨ck5, rt5, sp5, ⟨⟨p05, p15, p25, p35, p45⟩, a05, c05, a15, c15⟩, be5, en5, it5, ai5, ci5⟩ : Q.Qm)) rfl i5)); (have R5 := Lib.hid (r5.on bx)); (have E5 := Lib.hid e5); (have ES5 := Lib.hid es5); (simp only [Q.Qm.cells]); (clear bb bx i5 r5 e5 es5 hd5)))
          | (go_at_call 24; go_loud ((refine (AD2.out _ HM7.out.i).mono ?_); (rintro e w8 ⟨⟨ck8, rt8, sp8, ⟨⟨p08, p18, p28, p38, p48⟩, a08, c08, a18, c18⟩, be8, en8, it8, ai8, ci8⟩, A8, d8, ss8, rfl, e8, es8, i8, r8, hd8, bb⟩); (simp only at e8 es8); (have bx := below_box w8 (.cells #[.int .i64 ck8, .int .i64 rt8, .bool sp8, .slice a08 p08.length c08, .slice a18 p18.length c18, .int .i64 p28, .int .i64 p38, .int .i64 p48, .int .i64 be8, .int .i64 en8, .slice ai8 it8.length ci8] 28)); (have sa := (SI7.out.below bb SI7.out.lt).below bx (Nat.le_trans SI7.out.lt bb.size)); (have hm := (H5.out.below bb).below bx); (have SI8 := Lib.hid sa); (have H5b := Lib.hid hm); (have R5b := Lib.hid ((R5.out.on bb).on bx)); (clear sa hm SI7 H5 HM7 R5 AD2 za ka0 ka1 ka2 ka3 ka4 ka5 ka6 ka7 ka8 ka9 ka10 kb0 kb1 kb2 kb3 kb4 kb5 kb6 kb7 kb8 kb9 kb10); (have H8 := Lib.hid (Q.HQ.new (W := w8) (C := #[.int .i64 ck8, .int .i64 rt8, .bool sp8, .slice a08 p08.length c08, .slice a18 p18.length c18, .int .i64 p28, .int .i64 p38, .int .i64 p48, .int .i64 be8, .int .i64 en8, .slice ai8 it8.length ci8]) (q := (⟨ck8, rt8, sp8, ⟨⟨p08, p18, p28, p38, p48⟩, a08, c08, a18, c18⟩, be8, en8, it8, ai8, ci8⟩ : Q.Qm)) rfl i8)); (have R8 := Lib.hid (r8.on bx)); (have E8 := Lib.hid e8); (have ES8 := Lib.hid es8); (simp only [Q.Qm.cells]); (clear bb bx i8 r8 e8 es8 hd8))))
        obtain ⟨W9, hW9⟩ : ∃ W, w8.alloc (.cells #[.int .i64 ck8, .int .i64 rt8, .bool sp8, .slice a08 p08.length c08, .slice a18 p18.length c18, .int .i64 p28, .int .i64 p38, .int .i64 p48, .int .i64 be8, .int .i64 en8, .slice ai8 it8.length ci8] 28) = W := ⟨_, rfl⟩
        rw [hW9] at SI8 H8 H5b R5b R8 ⊢
        clear hW9
        have e8 := E8.out
        rw [← E5.out] at e8
        simp only [Q.Qm.a, Q.Qa.mv, Q.Qa.mk.injEq] at e8
        obtain ⟨ex1, ex2, ex3, ex4, ex5, ex6, ex7⟩ := e8
        have hk5 : ck5 = t2 := by have := XK.out; rw [← E5.out] at this; exact this
        have gw : IntKind.i64.wrap (ck5 + x1) = ck8 := by rw [hk5, w5_, ex1, hk5]
        have hl5 := congrArg List.length ES5.out
        have hl8b := congrArg List.length ES8.out
        rw [List.length_map] at hl5 hl8b
        rw [List.length_map] at hl8b
        have hls : ss8.length = ss5.length := hl8b.trans hl5.symm
        have gl : ((ss5.length : Int) != (ss8.length : Int)) = false := by rw [hls]; simp
        have HLS := Lib.hid hls
        have l9 : ss5.length ≤ 9 := by have := XL.out; omega
        have i5 : it5.length ≤ 8 := by have := XS.out.1; rw [← E5.out] at this; simpa [Q.Qm.a] using this
        have IT := Lib.hid ex7
        have CX := Lib.hid (Q.chk_proper XC.out)
        rw [← E5.out] at CX
        have SX := XS
        rw [← E5.out] at SX
        have MV2 := Lib.hid (fun (W : World) (h : Q.UsIn W W.heap.size ai5 it5) (hb : W.cell? ⟨w.heap.size + 1, 0, none⟩ = some (.int .u32 x1)) (hl : w.heap.size + 1 < W.heap.size) => move_any it5 ai5 ci5 (w.heap.size + 1) x1 W h (by omega) ⟨LX.out.1, LX.out.2.1⟩ (fun m hm => by have := Q.pr_af (Q.prs_mem CX.out.its (List.mem_map.2 ⟨m, hm, rfl⟩)); omega) hb hl)
        have CELL : Hid (∀ W : World, Below W9.heap.size W9 W → ((W.cell? ⟨w7.heap.size, 0, none⟩ = some (.int .i64 ck5) ∧ W.cell? ⟨w7.heap.size, 1, none⟩ = some (.int .i64 rt5) ∧ W.cell? ⟨w7.heap.size, 2, none⟩ = some (.bool sp5) ∧ W.cell? ⟨w7.heap.size, 3, none⟩ = some (.slice a05 p05.length c05) ∧ W.cell? ⟨w7.heap.size, 4, none⟩ = some (.slice a15 p15.length c15) ∧ W.cell? ⟨w7.heap.size, 5, none⟩ = some (.int .i64 p25) ∧ W.cell? ⟨w7.heap.size, 6, none⟩ = some (.int .i64 p35) ∧ W.cell? ⟨w7.heap.size, 7, none⟩ = some (.int .i64 p45) ∧ W.cell? ⟨w7.heap.size, 8, none⟩ = some (.int .i64 be5) ∧ W.cell? ⟨w7.heap.size, 9, none⟩ = some (.int .i64 en5) ∧ W.cell? ⟨w7.heap.size, 10, none⟩ = some (.slice ai5 it5.length ci5)) ∧ (W.cell? ⟨w8.heap.size, 0, none⟩ = some (.int .i64 ck8) ∧ W.cell? ⟨w8.heap.size, 1, none⟩ = some (.int .i64 rt8) ∧ W.cell? ⟨w8.heap.size, 2, none⟩ = some (.bool sp8) ∧ W.cell? ⟨w8.heap.size, 3, none⟩ = some (.slice a08 p08.length c08) ∧ W.cell? ⟨w8.heap.size, 4, none⟩ = some (.slice a18 p18.length c18) ∧ W.cell? ⟨w8.heap.size, 5, none⟩ = some (.int .i64 p28) ∧ W.cell? ⟨w8.heap.size, 6, none⟩ = some (.int .i64 p38) ∧ W.cell? ⟨w8.heap.size, 7, none⟩ = some (.int .i64 p48) ∧ W.cell? ⟨w8.heap.size, 8, none⟩ = some (.int .i64 be8) ∧ W.cell? ⟨w8.heap.size, 9, none⟩ = some (.int .i64 en8) ∧ W.cell? ⟨w8.heap.size, 10, none⟩ = some (.slice ai8 it8.length ci8)) ∧ W.cell? ⟨w.heap.size + 1, 0, none⟩ = some (.int .u32 x1))) := Lib.hid (fun W hb => ⟨Q.hq_cells (H5b.out.below hb), Q.hq_cells (H8.out.below hb), (SI8.out.below hb SI8.out.lt).by_⟩)
        clear hl5 hl8b hls hk5 ex1 ex2 ex4 ex5 ex7
        cases sp5 with
        | false =>
          obtain rfl : sp8 = false := ex3
          clear ex6
          refine wp_normal ?_
          refine wp_region_held_drew (S := fun w' => (w'.cell? ⟨w7.heap.size, 0, none⟩ = some (.int .i64 ck5) ∧ w'.cell? ⟨w7.heap.size, 1, none⟩ = some (.int .i64 rt5) ∧ w'.cell? ⟨w7.heap.size, 2, none⟩ = some (.bool false) ∧ w'.cell? ⟨w7.heap.size, 3, none⟩ = some (.slice a05 p05.length c05) ∧ w'.cell? ⟨w7.heap.size, 4, none⟩ = some (.slice a15 p15.length c15) ∧ w'.cell? ⟨w7.heap.size, 5, none⟩ = some (.int .i64 p25) ∧ w'.cell? ⟨w7.heap.size, 6, none⟩ = some (.int .i64 p35) ∧ w'.cell? ⟨w7.heap.size, 7, none⟩ = some (.int .i64 p45) ∧ w'.cell? ⟨w7.heap.size, 8, none⟩ = some (.int .i64 be5) ∧ w'.cell? ⟨w7.heap.size, 9, none⟩ = some (.int .i64 en5) ∧ w'.cell? ⟨w7.heap.size, 10, none⟩ = some (.slice ai5 it5.length ci5)) ∧ (w'.cell? ⟨w8.heap.size, 0, none⟩ = some (.int .i64 ck8) ∧ w'.cell? ⟨w8.heap.size, 1, none⟩ = some (.int .i64 rt8) ∧ w'.cell? ⟨w8.heap.size, 2, none⟩ = some (.bool false) ∧ w'.cell? ⟨w8.heap.size, 3, none⟩ = some (.slice a08 p08.length c08) ∧ w'.cell? ⟨w8.heap.size, 4, none⟩ = some (.slice a18 p18.length c18) ∧ w'.cell? ⟨w8.heap.size, 5, none⟩ = some (.int .i64 p28) ∧ w'.cell? ⟨w8.heap.size, 6, none⟩ = some (.int .i64 p38) ∧ w'.cell? ⟨w8.heap.size, 7, none⟩ = some (.int .i64 p48) ∧ w'.cell? ⟨w8.heap.size, 8, none⟩ = some (.int .i64 be8) ∧ w'.cell? ⟨w8.heap.size, 9, none⟩ = some (.int .i64 en8) ∧ w'.cell? ⟨w8.heap.size, 10, none⟩ = some (.slice ai8 it8.length ci8)) ∧ w'.cell? ⟨w.heap.size + 1, 0, none⟩ = some (.int .u32 x1)) (by kernel_rfl) (CELL.out _ (Below.refl _ W9).drew) (fun hHeld => ?_)
          obtain ⟨wd, hwd⟩ : ∃ wd, W9.drew = wd := ⟨_, rfl⟩
          have bd : Below W9.heap.size W9 wd := by rw [← hwd]; exact (Below.refl _ W9).drew
          rw [hwd] at hHeld ⊢
          clear hwd
          refine tk 0 rfl (by kernel_rfl) hHeld (fun _ _ _ h => h) (v := ?_) ?_ ?_
          rotate_left 1
          · (intro w hSw; (try dsimp only at hSw); (try simp only [List.getElem_toArray, List.getElem_cons_succ, List.getElem_cons_zero]); go_simp) <;> (with_reducible rfl)
          try simp only [List.getElem_toArray, List.getElem_cons_succ, List.getElem_cons_zero, Act.put, List.setIfInBounds_toArray, List.set_cons_zero, List.set_cons_succ]
          refine tk 1 rfl (by kernel_rfl) hHeld (fun _ _ _ h => h) (v := ?_) ?_ ?_
          rotate_left 1
          · (intro w hSw; (try dsimp only at hSw); (try simp only [List.getElem_toArray, List.getElem_cons_succ, List.getElem_cons_zero]); go_simp) <;> (with_reducible rfl)
          try simp only [List.getElem_toArray, List.getElem_cons_succ, List.getElem_cons_zero, Act.put, List.setIfInBounds_toArray, List.set_cons_zero, List.set_cons_succ]
          refine tk 2 rfl (by kernel_rfl) hHeld (fun _ _ _ h => h) (v := ?_) ?_ ?_
          rotate_left 1
          · (intro w hSw; (try dsimp only at hSw); (try simp only [List.getElem_toArray, List.getElem_cons_succ, List.getElem_cons_zero]); go_simp) <;> (with_reducible rfl)
          try simp only [List.getElem_toArray, List.getElem_cons_succ, List.getElem_cons_zero, Act.put, List.setIfInBounds_toArray, List.set_cons_zero, List.set_cons_succ]
          refine tk 3 rfl (by kernel_rfl) hHeld (fun _ _ _ h => h) (v := ?_) ?_ ?_
          rotate_left 1
          · (intro w hSw; (try dsimp only at hSw); (try simp only [List.getElem_toArray, List.getElem_cons_succ, List.getElem_cons_zero]); go_simp) <;> (with_reducible rfl)
          try simp only [List.getElem_toArray, List.getElem_cons_succ, List.getElem_cons_zero, Act.put, List.setIfInBounds_toArray, List.set_cons_zero, List.set_cons_succ]
          refine tk 4 rfl (by kernel_rfl) hHeld (fun _ _ _ h => h) (v := ?_) ?_ ?_
          rotate_left 1
          · (intro w hSw; (try dsimp only at hSw); (try simp only [List.getElem_toArray, List.getElem_cons_succ, List.getElem_cons_zero]); go_simp) <;> (with_reducible rfl)
          try simp only [List.getElem_toArray, List.getElem_cons_succ, List.getElem_cons_zero, Act.put, List.setIfInBounds_toArray, List.set_cons_zero, List.set_cons_succ]
          refine tk 5 rfl (by kernel_rfl) hHeld (fun _ _ _ h => h) (v := ?_) ?_ ?_
          rotate_left 1
          · (intro w hSw; (try dsimp only at hSw); (try simp only [List.getElem_toArray, List.getElem_cons_succ, List.getElem_cons_zero]); go_simp) <;> (with_reducible rfl)
          try simp only [List.getElem_toArray, List.getElem_cons_succ, List.getElem_cons_zero, Act.put, List.setIfInBounds_toArray, List.set_cons_zero, List.set_cons_succ]
          refine tk 6 rfl (by kernel_rfl) hHeld (fun _ _ _ h => h) (v := ?_) ?_ ?_
          rotate_left 1
          · (intro w hSw; (try dsimp only at hSw); (try simp only [List.getElem_toArray, List.getElem_cons_succ, List.getElem_cons_zero]); go_simp) <;> (with_reducible rfl)
          try simp only [List.getElem_toArray, List.getElem_cons_succ, List.getElem_cons_zero, Act.put, List.setIfInBounds_toArray, List.set_cons_zero, List.set_cons_succ]
          refine tk 7 rfl (by kernel_rfl) hHeld (fun _ _ _ h => h) (v := ?_) ?_ ?_
          rotate_left 1
          · (intro w hSw; (try dsimp only at hSw); (try simp only [List.getElem_toArray, List.getElem_cons_succ, List.getElem_cons_zero]); go_simp) <;> (with_reducible rfl)
          try simp only [List.getElem_toArray, List.getElem_cons_succ, List.getElem_cons_zero, Act.put, List.setIfInBounds_toArray, List.set_cons_zero, List.set_cons_succ]
          refine tk 8 rfl (by kernel_rfl) hHeld (fun _ _ _ h => h) (v := ?_) ?_ ?_
          rotate_left 1
          · (intro w hSw; (try dsimp only at hSw); (try simp only [List.getElem_toArray, List.getElem_cons_succ, List.getElem_cons_zero]); go_simp) <;> (with_reducible rfl)
          try simp only [List.getElem_toArray, List.getElem_cons_succ, List.getElem_cons_zero, Act.put, List.setIfInBounds_toArray, List.set_cons_zero, List.set_cons_succ]
          refine tk 9 rfl (by kernel_rfl) hHeld (fun _ _ _ h => h) (v := ?_) ?_ ?_
          rotate_left 1
          · (intro w hSw; (try dsimp only at hSw); (try simp only [List.getElem_toArray, List.getElem_cons_succ, List.getElem_cons_zero]); go_simp) <;> (with_reducible rfl)
          try simp only [List.getElem_toArray, List.getElem_cons_succ, List.getElem_cons_zero, Act.put, List.setIfInBounds_toArray, List.set_cons_zero, List.set_cons_succ]
          refine tk 10 rfl (by kernel_rfl) hHeld (fun _ _ _ h => h) (v := ?_) ?_ ?_
          rotate_left 1
          · (intro w hSw; (try dsimp only at hSw); (try simp only [List.getElem_toArray, List.getElem_cons_succ, List.getElem_cons_zero]); go_simp) <;> (with_reducible rfl)
          try simp only [List.getElem_toArray, List.getElem_cons_succ, List.getElem_cons_zero, Act.put, List.setIfInBounds_toArray, List.set_cons_zero, List.set_cons_succ]
          refine tk 11 rfl (by kernel_rfl) hHeld (fun _ _ _ h => h) (v := ?_) ?_ ?_
          rotate_left 1
          · (intro w hSw; (try dsimp only at hSw); (try simp only [List.getElem_toArray, List.getElem_cons_succ, List.getElem_cons_zero]); go_simp) <;> (with_reducible rfl)
          try simp only [List.getElem_toArray, List.getElem_cons_succ, List.getElem_cons_zero, Act.put, List.setIfInBounds_toArray, List.set_cons_zero, List.set_cons_succ]
          refine tk 12 rfl (by kernel_rfl) hHeld (fun _ _ _ h => h) (v := ?_) ?_ ?_
          rotate_left 1
          · (intro w hSw; (try dsimp only at hSw); (try simp only [List.getElem_toArray, List.getElem_cons_succ, List.getElem_cons_zero]); go_simp) <;> (with_reducible rfl)
          try simp only [List.getElem_toArray, List.getElem_cons_succ, List.getElem_cons_zero, Act.put, List.setIfInBounds_toArray, List.set_cons_zero, List.set_cons_succ]
          refine tk 13 rfl (by kernel_rfl) hHeld (fun _ _ _ h => h) (v := ?_) ?_ ?_
          rotate_left 1
          · (intro w hSw; (try dsimp only at hSw); (try simp only [List.getElem_toArray, List.getElem_cons_succ, List.getElem_cons_zero]); go_simp) <;> (with_reducible rfl)
          try simp only [List.getElem_toArray, List.getElem_cons_succ, List.getElem_cons_zero, Act.put, List.setIfInBounds_toArray, List.set_cons_zero, List.set_cons_succ]
          refine tk 14 rfl (by kernel_rfl) hHeld (fun _ _ _ h => h) (v := ?_) ?_ ?_
          rotate_left 1
          · (intro w hSw; (try dsimp only at hSw); (try simp only [List.getElem_toArray, List.getElem_cons_succ, List.getElem_cons_zero]); go_simp) <;> (with_reducible rfl)
          try simp only [List.getElem_toArray, List.getElem_cons_succ, List.getElem_cons_zero, Act.put, List.setIfInBounds_toArray, List.set_cons_zero, List.set_cons_succ]
          refine tk 15 rfl (by kernel_rfl) hHeld (fun _ _ _ h => h) (v := ?_) ?_ ?_
          rotate_left 1
          · (intro w hSw; (try dsimp only at hSw); (try simp only [List.getElem_toArray, List.getElem_cons_succ, List.getElem_cons_zero]); go_simp) <;> (with_reducible rfl)
          try simp only [List.getElem_toArray, List.getElem_cons_succ, List.getElem_cons_zero, Act.put, List.setIfInBounds_toArray, List.set_cons_zero, List.set_cons_succ]
          refine tk 16 rfl (by kernel_rfl) hHeld (fun _ _ _ h => h) (v := ?_) ?_ ?_
          rotate_left 1
          · (intro w hSw; (try dsimp only at hSw); (try simp only [List.getElem_toArray, List.getElem_cons_succ, List.getElem_cons_zero]); go_simp) <;> (with_reducible rfl)
          try simp only [List.getElem_toArray, List.getElem_cons_succ, List.getElem_cons_zero, Act.put, List.setIfInBounds_toArray, List.set_cons_zero, List.set_cons_succ]
          refine tk 17 rfl (by kernel_rfl) hHeld (fun _ _ _ h => h) (v := ?_) ?_ ?_
          rotate_left 1
          · (intro w hSw; (try dsimp only at hSw); (try simp only [List.getElem_toArray, List.getElem_cons_succ, List.getElem_cons_zero]); go_simp) <;> (with_reducible rfl)
          try simp only [List.getElem_toArray, List.getElem_cons_succ, List.getElem_cons_zero, Act.put, List.setIfInBounds_toArray, List.set_cons_zero, List.set_cons_succ]
          refine tk 18 rfl (by kernel_rfl) hHeld (fun _ _ _ h => h) (v := ?_) ?_ ?_
          rotate_left 1
          · (intro w hSw; (try dsimp only at hSw); (try simp only [List.getElem_toArray, List.getElem_cons_succ, List.getElem_cons_zero]); go_simp) <;> (with_reducible rfl)
          try simp only [List.getElem_toArray, List.getElem_cons_succ, List.getElem_cons_zero, Act.put, List.setIfInBounds_toArray, List.set_cons_zero, List.set_cons_succ]
          refine tk 19 rfl (by kernel_rfl) hHeld (fun _ _ _ h => h) (v := ?_) ?_ ?_
          rotate_left 1
          · (intro w hSw; (try dsimp only at hSw); (try simp only [List.getElem_toArray, List.getElem_cons_succ, List.getElem_cons_zero]); go_simp) <;> (with_reducible rfl)
          try simp only [List.getElem_toArray, List.getElem_cons_succ, List.getElem_cons_zero, Act.put, List.setIfInBounds_toArray, List.set_cons_zero, List.set_cons_succ]
          refine tk 20 rfl (by kernel_rfl) hHeld (fun _ _ _ h => h) (v := ?_) ?_ ?_
          rotate_left 1
          · (intro w hSw; (try dsimp only at hSw); (try simp only [List.getElem_toArray, List.getElem_cons_succ, List.getElem_cons_zero]); go_simp) <;> (with_reducible rfl)
          try simp only [List.getElem_toArray, List.getElem_cons_succ, List.getElem_cons_zero, Act.put, List.setIfInBounds_toArray, List.set_cons_zero, List.set_cons_succ]
          refine tk 21 rfl (by kernel_rfl) hHeld (fun _ _ _ h => h) (v := ?_) ?_ ?_
          rotate_left 1
          · (intro w hSw; (try dsimp only at hSw); (try simp only [List.getElem_toArray, List.getElem_cons_succ, List.getElem_cons_zero]); go_simp) <;> (with_reducible rfl)
          try simp only [List.getElem_toArray, List.getElem_cons_succ, List.getElem_cons_zero, Act.put, List.setIfInBounds_toArray, List.set_cons_zero, List.set_cons_succ]
          refine tk 22 rfl (by kernel_rfl) hHeld (fun _ _ _ h => h) (v := ?_) ?_ ?_
          rotate_left 1
          · (intro w hSw; (try dsimp only at hSw); (try simp only [List.getElem_toArray, List.getElem_cons_succ, List.getElem_cons_zero]); go_simp) <;> (with_reducible rfl)
          try simp only [List.getElem_toArray, List.getElem_cons_succ, List.getElem_cons_zero, Act.put, List.setIfInBounds_toArray, List.set_cons_zero, List.set_cons_succ]
          refine tk 23 rfl (by kernel_rfl) hHeld (fun _ _ _ h => h) (v := ?_) ?_ ?_
          rotate_left 1
          · (intro w hSw; (try dsimp only at hSw); (try simp only [List.getElem_toArray, List.getElem_cons_succ, List.getElem_cons_zero]); go_simp) <;> (with_reducible rfl)
          try simp only [List.getElem_toArray, List.getElem_cons_succ, List.getElem_cons_zero, Act.put, List.setIfInBounds_toArray, List.set_cons_zero, List.set_cons_succ]
          refine tk 24 rfl (by kernel_rfl) hHeld (fun _ _ _ h => h) (v := ?_) ?_ ?_
          rotate_left 1
          · (intro w hSw; (try dsimp only at hSw); (try simp only [List.getElem_toArray, List.getElem_cons_succ, List.getElem_cons_zero]); go_simp) <;> (with_reducible rfl)
          try simp only [List.getElem_toArray, List.getElem_cons_succ, List.getElem_cons_zero, Act.put, List.setIfInBounds_toArray, List.set_cons_zero, List.set_cons_succ]
          refine tk 25 rfl (by kernel_rfl) hHeld (fun _ _ _ h => h) (v := ?_) ?_ ?_
          rotate_left 1
          · (intro w hSw; (try dsimp only at hSw); (try simp only [List.getElem_toArray, List.getElem_cons_succ, List.getElem_cons_zero]); go_simp) <;> (with_reducible rfl)
          try simp only [List.getElem_toArray, List.getElem_cons_succ, List.getElem_cons_zero, Act.put, List.setIfInBounds_toArray, List.set_cons_zero, List.set_cons_succ]
          refine tk 26 rfl (by kernel_rfl) hHeld (fun _ _ _ h => h) (v := ?_) ?_ ?_
          rotate_left 1
          · (intro w hSw; (try dsimp only at hSw); (try simp only [List.getElem_toArray, List.getElem_cons_succ, List.getElem_cons_zero]); go_simp) <;> (with_reducible rfl)
          try simp only [List.getElem_toArray, List.getElem_cons_succ, List.getElem_cons_zero, Act.put, List.setIfInBounds_toArray, List.set_cons_zero, List.set_cons_succ]
          refine tk 27 rfl (by kernel_rfl) hHeld (fun _ _ _ h => h) (v := ?_) ?_ ?_
          rotate_left 1
          · (intro w hSw; (try dsimp only at hSw); (try simp only [List.getElem_toArray, List.getElem_cons_succ, List.getElem_cons_zero]); go_simp) <;> (with_reducible rfl)
          try simp only [List.getElem_toArray, List.getElem_cons_succ, List.getElem_cons_zero, Act.put, List.setIfInBounds_toArray, List.set_cons_zero, List.set_cons_succ]
          refine tk 28 rfl (by kernel_rfl) hHeld (fun _ _ _ h => h) (v := ?_) ?_ ?_
          rotate_left 1
          · (intro w hSw; (try dsimp only at hSw); (try simp only [List.getElem_toArray, List.getElem_cons_succ, List.getElem_cons_zero]); go_simp) <;> (with_reducible rfl)
          try simp only [List.getElem_toArray, List.getElem_cons_succ, List.getElem_cons_zero, Act.put, List.setIfInBounds_toArray, List.set_cons_zero, List.set_cons_succ]
          refine tk 29 rfl (by kernel_rfl) hHeld (fun _ _ _ h => h) (v := ?_) ?_ ?_
          rotate_left 1
          · (intro w hSw; (try dsimp only at hSw); (try simp only [List.getElem_toArray, List.getElem_cons_succ, List.getElem_cons_zero]); go_simp) <;> (with_reducible rfl)
          try simp only [List.getElem_toArray, List.getElem_cons_succ, List.getElem_cons_zero, Act.put, List.setIfInBounds_toArray, List.set_cons_zero, List.set_cons_succ]
          refine tk 30 rfl (by kernel_rfl) hHeld (fun _ _ _ h => h) (v := ?_) ?_ ?_
          rotate_left 1
          · (intro w hSw; (try dsimp only at hSw); (try simp only [List.getElem_toArray, List.getElem_cons_succ, List.getElem_cons_zero]); go_simp) <;> (with_reducible rfl)
          try simp only [List.getElem_toArray, List.getElem_cons_succ, List.getElem_cons_zero, Act.put, List.setIfInBounds_toArray, List.set_cons_zero, List.set_cons_succ]
          refine tk 31 rfl (by kernel_rfl) hHeld (fun _ _ _ h => h) (v := ?_) ?_ ?_
          rotate_left 1
          · (intro w hSw; (try dsimp only at hSw); (try simp only [List.getElem_toArray, List.getElem_cons_succ, List.getElem_cons_zero]); go_simp) <;> (with_reducible rfl)
          try simp only [List.getElem_toArray, List.getElem_cons_succ, List.getElem_cons_zero, Act.put, List.setIfInBounds_toArray, List.set_cons_zero, List.set_cons_succ]
          refine tk 32 rfl (by kernel_rfl) hHeld (fun _ _ _ h => h) (v := ?_) ?_ ?_
          rotate_left 1
          · (intro w hSw; (try dsimp only at hSw); (try simp only [List.getElem_toArray, List.getElem_cons_succ, List.getElem_cons_zero]); go_simp) <;> (with_reducible rfl)
          try simp only [List.getElem_toArray, List.getElem_cons_succ, List.getElem_cons_zero, Act.put, List.setIfInBounds_toArray, List.set_cons_zero, List.set_cons_succ]
          refine tk 33 rfl (by kernel_rfl) hHeld (fun _ _ _ h => h) (v := ?_) ?_ ?_
          rotate_left 1
          · (intro w hSw; (try dsimp only at hSw); (try simp only [List.getElem_toArray, List.getElem_cons_succ, List.getElem_cons_zero]); go_simp) <;> (with_reducible rfl)
          try simp only [List.getElem_toArray, List.getElem_cons_succ, List.getElem_cons_zero, Act.put, List.setIfInBounds_toArray, List.set_cons_zero, List.set_cons_succ]
          refine sk 34 rfl (by kernel_rfl) hHeld (fun _ _ _ h => h) ?_
          try simp only [List.getElem_toArray, List.getElem_cons_succ, List.getElem_cons_zero, Act.put, List.setIfInBounds_toArray, List.set_cons_zero, List.set_cons_succ]
          refine sk 35 rfl (by kernel_rfl) hHeld (fun _ _ _ h => h) ?_
          try simp only [List.getElem_toArray, List.getElem_cons_succ, List.getElem_cons_zero, Act.put, List.setIfInBounds_toArray, List.set_cons_zero, List.set_cons_succ]
          refine sk 36 rfl (by kernel_rfl) hHeld (fun _ _ _ h => h) ?_
          try simp only [List.getElem_toArray, List.getElem_cons_succ, List.getElem_cons_zero, Act.put, List.setIfInBounds_toArray, List.set_cons_zero, List.set_cons_succ]
          refine sk 37 rfl (by kernel_rfl) hHeld (fun _ _ _ h => h) ?_
          try simp only [List.getElem_toArray, List.getElem_cons_succ, List.getElem_cons_zero, Act.put, List.setIfInBounds_toArray, List.set_cons_zero, List.set_cons_succ]
          refine sk 38 rfl (by kernel_rfl) hHeld (fun _ _ _ h => h) ?_
          try simp only [List.getElem_toArray, List.getElem_cons_succ, List.getElem_cons_zero, Act.put, List.setIfInBounds_toArray, List.set_cons_zero, List.set_cons_succ]
          refine sk 39 rfl (by kernel_rfl) hHeld (fun _ _ _ h => h) ?_
          try simp only [List.getElem_toArray, List.getElem_cons_succ, List.getElem_cons_zero, Act.put, List.setIfInBounds_toArray, List.set_cons_zero, List.set_cons_succ]
          refine sk 40 rfl (by kernel_rfl) hHeld (fun _ _ _ h => h) ?_
          try simp only [List.getElem_toArray, List.getElem_cons_succ, List.getElem_cons_zero, Act.put, List.setIfInBounds_toArray, List.set_cons_zero, List.set_cons_succ]
          refine sk 41 rfl (by kernel_rfl) hHeld (fun _ _ _ h => h) ?_
          try simp only [List.getElem_toArray, List.getElem_cons_succ, List.getElem_cons_zero, Act.put, List.setIfInBounds_toArray, List.set_cons_zero, List.set_cons_succ]
          refine tk 42 rfl (by kernel_rfl) hHeld (fun _ _ _ h => h) (v := ?_) ?_ ?_
          rotate_left 1
          · (intro w hSw; (try dsimp only at hSw); (try simp only [List.getElem_toArray, List.getElem_cons_succ, List.getElem_cons_zero]); go_simp) <;> (with_reducible rfl)
          try simp only [List.getElem_toArray, List.getElem_cons_succ, List.getElem_cons_zero, Act.put, List.setIfInBounds_toArray, List.set_cons_zero, List.set_cons_succ]
          refine tk 43 rfl (by kernel_rfl) hHeld (fun _ _ _ h => h) (v := ?_) ?_ ?_
          rotate_left 1
          · (intro w hSw; (try dsimp only at hSw); (try simp only [List.getElem_toArray, List.getElem_cons_succ, List.getElem_cons_zero]); go_simp) <;> (with_reducible rfl)
          try simp only [List.getElem_toArray, List.getElem_cons_succ, List.getElem_cons_zero, Act.put, List.setIfInBounds_toArray, List.set_cons_zero, List.set_cons_succ]
          refine tk 44 rfl (by kernel_rfl) hHeld (fun _ _ _ h => h) (v := ?_) ?_ ?_
          rotate_left 1
          · (intro w hSw; (try dsimp only at hSw); (try simp only [List.getElem_toArray, List.getElem_cons_succ, List.getElem_cons_zero]); go_simp) <;> (with_reducible rfl)
          try simp only [List.getElem_toArray, List.getElem_cons_succ, List.getElem_cons_zero, Act.put, List.setIfInBounds_toArray, List.set_cons_zero, List.set_cons_succ]
          refine tk 45 rfl (by kernel_rfl) hHeld (fun _ _ _ h => h) (v := ?_) ?_ ?_
          rotate_left 1
          · (intro w hSw; (try dsimp only at hSw); (try simp only [List.getElem_toArray, List.getElem_cons_succ, List.getElem_cons_zero]); go_simp) <;> (with_reducible rfl)
          try simp only [List.getElem_toArray, List.getElem_cons_succ, List.getElem_cons_zero, Act.put, List.setIfInBounds_toArray, List.set_cons_zero, List.set_cons_succ]
          refine tk 46 rfl (by kernel_rfl) hHeld (fun _ _ _ h => h) (v := ?_) ?_ ?_
          rotate_left 1
          · (intro w hSw; (try dsimp only at hSw); (try simp only [List.getElem_toArray, List.getElem_cons_succ, List.getElem_cons_zero]); go_simp) <;> (with_reducible rfl)
          try simp only [List.getElem_toArray, List.getElem_cons_succ, List.getElem_cons_zero, Act.put, List.setIfInBounds_toArray, List.set_cons_zero, List.set_cons_succ]
          refine tk 47 rfl (by kernel_rfl) hHeld (fun _ _ _ h => h) (v := ?_) ?_ ?_
          rotate_left 1
          · (intro w hSw; (try dsimp only at hSw); (try simp only [List.getElem_toArray, List.getElem_cons_succ, List.getElem_cons_zero]); go_simp) <;> (with_reducible rfl)
          try simp only [List.getElem_toArray, List.getElem_cons_succ, List.getElem_cons_zero, Act.put, List.setIfInBounds_toArray, List.set_cons_zero, List.set_cons_succ]
          refine tk 49 rfl (by kernel_rfl) hHeld (fun _ _ _ h => h) (v := ?_) ?_ ?_
          rotate_left 1
          · (intro w hSw; (try dsimp only at hSw); (try simp only [List.getElem_toArray, List.getElem_cons_succ, List.getElem_cons_zero]); go_simp) <;> (with_reducible rfl)
          try simp only [List.getElem_toArray, List.getElem_cons_succ, List.getElem_cons_zero, Act.put, List.setIfInBounds_toArray, List.set_cons_zero, List.set_cons_succ]
          refine tk 50 rfl (by kernel_rfl) hHeld (fun _ _ _ h => h) (v := ?_) ?_ ?_
          rotate_left 1
          · (intro w hSw; (try dsimp only at hSw); (try simp only [List.getElem_toArray, List.getElem_cons_succ, List.getElem_cons_zero]); go_simp) <;> (with_reducible rfl)
          try simp only [List.getElem_toArray, List.getElem_cons_succ, List.getElem_cons_zero, Act.put, List.setIfInBounds_toArray, List.set_cons_zero, List.set_cons_succ]
          refine wpAnyH_ready (rs := [48]) (by kernel_rfl) (by simp) (AllReadyH.cons rfl (fun K hK => ?_) AllReadyH.nil)
          simp only [List.getElem_toArray, List.getElem_cons_succ, List.getElem_cons_zero]
          go_simp
          go_at_call 32
          refine (MV2.out wd (H5b.out.below bd).i.items (SI8.out.below bd SI8.out.lt).by_ (by have := SI8.out.lt; have := bd.size; omega)).mono ?_
          rintro e wa ⟨A9, c9, rfl, hc9, own9, bz⟩
          try go_wp2_with fail
          have ba := bd.trans (bz.mono bd.size)
          have U9 := Lib.hid (Q.us_mv own9 (fun m hm => ((H5b.out.below ba).i.items.el m hm)))
          refine hK.out _ _ (CELL.out _ ba) (fun hHeld => ?_)
          clear hK K bz own9 hc9
          try simp only [List.getElem_toArray, List.getElem_cons_succ, List.getElem_cons_zero, Act.put, List.setIfInBounds_toArray, List.set_cons_zero, List.set_cons_succ]
          refine wpAnyH_ready (rs := [51]) (by kernel_rfl) (by simp) (AllReadyH.cons rfl (fun K hK => ?_) AllReadyH.nil)
          simp only [List.getElem_toArray, List.getElem_cons_succ, List.getElem_cons_zero]
          go_simp
          go_at_call 31
          have SU := sameuts_any A9 ai8 c9 ci8 wa.heap.size (it5.map (fun x => Q.Um.mv x x1)) it8 wa U9.out (H8.out.below ba).i.items (Nat.le_refl _) (by rw [IT.out, List.map_map, List.map_map]; rfl) (by rw [List.length_map]; unfold maxLen; omega) (fun m hm => by obtain ⟨x, hx, rfl⟩ := List.mem_map.1 hm; exact (SX.out.2.2 x.u (List.mem_map.2 ⟨x, hx, rfl⟩)).ok)
          rw [List.length_map] at SU
          refine SU.mono ?_
          clear SU
          rintro e wb ⟨rfl, bz⟩
          try go_wp2_with fail
          have bb := ba.trans (bz.mono ba.size)
          refine hK.out _ _ (CELL.out _ bb) (fun hHeld => ?_)
          clear hK K bz
          try simp only [List.getElem_toArray, List.getElem_cons_succ, List.getElem_cons_zero, Act.put, List.setIfInBounds_toArray, List.set_cons_zero, List.set_cons_succ]
          refine tk 52 rfl (by kernel_rfl) hHeld (fun _ _ _ h => h) (v := ?_) ?_ ?_
          rotate_left 1
          · (intro w hSw; (try dsimp only at hSw); (try simp only [List.getElem_toArray, List.getElem_cons_succ, List.getElem_cons_zero]); go_simp) <;> (with_reducible rfl)
          try simp only [List.getElem_toArray, List.getElem_cons_succ, List.getElem_cons_zero, Act.put, List.setIfInBounds_toArray, List.set_cons_zero, List.set_cons_succ]
          refine tk 53 rfl (by kernel_rfl) hHeld (fun _ _ _ h => h) (v := ?_) ?_ ?_
          rotate_left 1
          · (intro w hSw; (try dsimp only at hSw); (try simp only [List.getElem_toArray, List.getElem_cons_succ, List.getElem_cons_zero]); go_simp) <;> (with_reducible rfl)
          try simp only [List.getElem_toArray, List.getElem_cons_succ, List.getElem_cons_zero, Act.put, List.setIfInBounds_toArray, List.set_cons_zero, List.set_cons_succ]
          refine wpAnyH_done (by kernel_rfl) ?_ _
          have BB := Lib.hid bb
          clear bb ba bd
          go_wp2_with fail
          go_loopw [160] (fun v wr => ∃ k : Nat, k ≤ ss5.length ∧ v = .int .i64 k ∧ Hid (Below W9.heap.size W9 wr)) (fun v _ => ss5.length - (intOf v).toNat)
          case atStart => exact ⟨0, Nat.zero_le _, rfl, BB⟩
          case round =>
            obtain ⟨k, hk, rfl, hB⟩ := hrel
            by_cases hlt : k < ss5.length
            · have hr5 : Reads _ _ 8 A5 ss5.length (Q.scs ss5) := (R5b.out.on hB.out).row
              have hr8 : Reads _ _ 8 A8 ss8.length (Q.scs ss8) := (R8.out.on hB.out).row
              have hlt8 : k < ss8.length := by have := HLS.out; omega
              obtain ⟨p1_, o1, rfl, _, hcl1⟩ := Q.reads_sp hr5 (Nat.lt_of_le_of_lt (Nat.zero_le k) hlt)
              obtain ⟨p2_, o2, rfl, _, hcl2⟩ := Q.reads_sp hr8 (Nat.lt_of_le_of_lt (Nat.zero_le k) hlt8)
              obtain ⟨_, _, _, _, _, r5, r6, _⟩ := hcl1 k hlt
              obtain ⟨_, _, _, _, _, g5, g6, _⟩ := hcl2 k hlt8
              have za := (SI8.out.below hB.out SI8.out.lt).by_
              have q0 : decide ((k : Int) < (ss5.length : Int)) = true := decide_eq_true (by omega)
              have q1 : (0 : Int) ≤ (k : Int) := by omega
              have q2 : (k : Int) < (ss5.length : Int) := by omega
              have q3 : (k : Int) < (ss8.length : Int) := by omega
              have hk1 : k + 1 ≤ 9 := by omega
              have hb := XB.out (ss5[k].a) (by rw [← ES5.out]; exact List.mem_map.2 ⟨_, List.getElem_mem hlt, rfl⟩)
              have hee : ss8[k].a = (ss5[k].a).mv x1 := by
                have h1 := congrArg (fun l => l[k]?) ES8.out
                rw [← ES5.out] at h1
                simpa [hlt, hlt8] using h1
              have hbe : ss8[k].be = ss5[k].be + x1 := congrArg Q.Sa.be hee
              have hen : ss8[k].en = ss5[k].en + x1 := congrArg Q.Sa.en hee
              simp only [Q.Sm.a] at hb
              obtain ⟨y1, hy1⟩ : ∃ y, ss5[k].be = y := ⟨_, rfl⟩
              obtain ⟨y2, hy2⟩ : ∃ y, ss5[k].en = y := ⟨_, rfl⟩
              rw [hbe, hy1] at g5
              rw [hen, hy2] at g6
              rw [hy1] at r5 hb
              rw [hy2] at r6 hb
              have w6_ : IntKind.i64.wrap (y1 + x1) = y1 + x1 := by have := LX.out; have := TT.out; simp [IntKind.wrap, IntKind.bits, IntKind.signed]; omega
              have w7_ : IntKind.i64.wrap (y2 + x1) = y2 + x1 := by have := LX.out; have := TT.out; simp [IntKind.wrap, IntKind.bits, IntKind.signed]; omega
              clear hr5 hr8 hcl1 hcl2 hb hee hbe hen hy1 hy2
              go_wp2_with fail
              go_quiet (fail)
              go_wp2
              go_roundw
              case rel => exact ⟨k + 1, by omega, by go_num, Lib.hid (below_drewN hB.out _)⟩
              case measure => simp [intOf] <;> omega
            · have q0 : decide ((k : Int) < (ss5.length : Int)) = false := decide_eq_false (by omega)
              go_wp2_with (first
                | (go_at_call 13; go_loud ((refine (AWK.out _).mono ?_); (rintro e wE ⟨rfl, bE⟩); (have BE := Lib.hid ((SI8.out.b.trans (hB.out.mono SI8.out.b.size)).trans (bE.mono (Nat.le_trans SI8.out.b.size hB.out.size)))); (clear bE))))
              go_ret
              exact ⟨rfl, BE.out⟩
        | true =>
          obtain rfl : sp8 = true := ex3
          simp only [if_true] at ex6
          have hen := (CX.out.sp rfl).2.2.2
          simp only [Q.Qm.a] at hen
          have he0 := CX.out.ck.1
          simp only [Q.Qm.a] at he0
          have ge : IntKind.i64.wrap (en5 + x1) = en8 := by rw [ex6]; have := LX.out; simp [IntKind.wrap, IntKind.bits, IntKind.signed]; omega
          clear hen he0 ex6
          refine wp_normal ?_
          refine wp_region_held_drew (S := fun w' => (w'.cell? ⟨w7.heap.size, 0, none⟩ = some (.int .i64 ck5) ∧ w'.cell? ⟨w7.heap.size, 1, none⟩ = some (.int .i64 rt5) ∧ w'.cell? ⟨w7.heap.size, 2, none⟩ = some (.bool true) ∧ w'.cell? ⟨w7.heap.size, 3, none⟩ = some (.slice a05 p05.length c05) ∧ w'.cell? ⟨w7.heap.size, 4, none⟩ = some (.slice a15 p15.length c15) ∧ w'.cell? ⟨w7.heap.size, 5, none⟩ = some (.int .i64 p25) ∧ w'.cell? ⟨w7.heap.size, 6, none⟩ = some (.int .i64 p35) ∧ w'.cell? ⟨w7.heap.size, 7, none⟩ = some (.int .i64 p45) ∧ w'.cell? ⟨w7.heap.size, 8, none⟩ = some (.int .i64 be5) ∧ w'.cell? ⟨w7.heap.size, 9, none⟩ = some (.int .i64 en5) ∧ w'.cell? ⟨w7.heap.size, 10, none⟩ = some (.slice ai5 it5.length ci5)) ∧ (w'.cell? ⟨w8.heap.size, 0, none⟩ = some (.int .i64 ck8) ∧ w'.cell? ⟨w8.heap.size, 1, none⟩ = some (.int .i64 rt8) ∧ w'.cell? ⟨w8.heap.size, 2, none⟩ = some (.bool true) ∧ w'.cell? ⟨w8.heap.size, 3, none⟩ = some (.slice a08 p08.length c08) ∧ w'.cell? ⟨w8.heap.size, 4, none⟩ = some (.slice a18 p18.length c18) ∧ w'.cell? ⟨w8.heap.size, 5, none⟩ = some (.int .i64 p28) ∧ w'.cell? ⟨w8.heap.size, 6, none⟩ = some (.int .i64 p38) ∧ w'.cell? ⟨w8.heap.size, 7, none⟩ = some (.int .i64 p48) ∧ w'.cell? ⟨w8.heap.size, 8, none⟩ = some (.int .i64 be8) ∧ w'.cell? ⟨w8.heap.size, 9, none⟩ = some (.int .i64 en8) ∧ w'.cell? ⟨w8.heap.size, 10, none⟩ = some (.slice ai8 it8.length ci8)) ∧ w'.cell? ⟨w.heap.size + 1, 0, none⟩ = some (.int .u32 x1)) (by kernel_rfl) (CELL.out _ (Below.refl _ W9).drew) (fun hHeld => ?_)
          obtain ⟨wd, hwd⟩ : ∃ wd, W9.drew = wd := ⟨_, rfl⟩
          have bd : Below W9.heap.size W9 wd := by rw [← hwd]; exact (Below.refl _ W9).drew
          rw [hwd] at hHeld ⊢
          clear hwd
          refine tk 0 rfl (by kernel_rfl) hHeld (fun _ _ _ h => h) (v := ?_) ?_ ?_
          rotate_left 1
          · (intro w hSw; (try dsimp only at hSw); (try simp only [List.getElem_toArray, List.getElem_cons_succ, List.getElem_cons_zero]); go_simp) <;> (with_reducible rfl)
          try simp only [List.getElem_toArray, List.getElem_cons_succ, List.getElem_cons_zero, Act.put, List.setIfInBounds_toArray, List.set_cons_zero, List.set_cons_succ]
          refine tk 1 rfl (by kernel_rfl) hHeld (fun _ _ _ h => h) (v := ?_) ?_ ?_
          rotate_left 1
          · (intro w hSw; (try dsimp only at hSw); (try simp only [List.getElem_toArray, List.getElem_cons_succ, List.getElem_cons_zero]); go_simp) <;> (with_reducible rfl)
          try simp only [List.getElem_toArray, List.getElem_cons_succ, List.getElem_cons_zero, Act.put, List.setIfInBounds_toArray, List.set_cons_zero, List.set_cons_succ]
          refine tk 2 rfl (by kernel_rfl) hHeld (fun _ _ _ h => h) (v := ?_) ?_ ?_
          rotate_left 1
          · (intro w hSw; (try dsimp only at hSw); (try simp only [List.getElem_toArray, List.getElem_cons_succ, List.getElem_cons_zero]); go_simp) <;> (with_reducible rfl)
          try simp only [List.getElem_toArray, List.getElem_cons_succ, List.getElem_cons_zero, Act.put, List.setIfInBounds_toArray, List.set_cons_zero, List.set_cons_succ]
          refine tk 3 rfl (by kernel_rfl) hHeld (fun _ _ _ h => h) (v := ?_) ?_ ?_
          rotate_left 1
          · (intro w hSw; (try dsimp only at hSw); (try simp only [List.getElem_toArray, List.getElem_cons_succ, List.getElem_cons_zero]); go_simp) <;> (with_reducible rfl)
          try simp only [List.getElem_toArray, List.getElem_cons_succ, List.getElem_cons_zero, Act.put, List.setIfInBounds_toArray, List.set_cons_zero, List.set_cons_succ]
          refine tk 4 rfl (by kernel_rfl) hHeld (fun _ _ _ h => h) (v := ?_) ?_ ?_
          rotate_left 1
          · (intro w hSw; (try dsimp only at hSw); (try simp only [List.getElem_toArray, List.getElem_cons_succ, List.getElem_cons_zero]); go_simp) <;> (with_reducible rfl)
          try simp only [List.getElem_toArray, List.getElem_cons_succ, List.getElem_cons_zero, Act.put, List.setIfInBounds_toArray, List.set_cons_zero, List.set_cons_succ]
          refine tk 5 rfl (by kernel_rfl) hHeld (fun _ _ _ h => h) (v := ?_) ?_ ?_
          rotate_left 1
          · (intro w hSw; (try dsimp only at hSw); (try simp only [List.getElem_toArray, List.getElem_cons_succ, List.getElem_cons_zero]); go_simp) <;> (with_reducible rfl)
          try simp only [List.getElem_toArray, List.getElem_cons_succ, List.getElem_cons_zero, Act.put, List.setIfInBounds_toArray, List.set_cons_zero, List.set_cons_succ]
          refine tk 6 rfl (by kernel_rfl) hHeld (fun _ _ _ h => h) (v := ?_) ?_ ?_
          rotate_left 1
          · (intro w hSw; (try dsimp only at hSw); (try simp only [List.getElem_toArray, List.getElem_cons_succ, List.getElem_cons_zero]); go_simp) <;> (with_reducible rfl)
          try simp only [List.getElem_toArray, List.getElem_cons_succ, List.getElem_cons_zero, Act.put, List.setIfInBounds_toArray, List.set_cons_zero, List.set_cons_succ]
          refine tk 7 rfl (by kernel_rfl) hHeld (fun _ _ _ h => h) (v := ?_) ?_ ?_
          rotate_left 1
          · (intro w hSw; (try dsimp only at hSw); (try simp only [List.getElem_toArray, List.getElem_cons_succ, List.getElem_cons_zero]); go_simp) <;> (with_reducible rfl)
          try simp only [List.getElem_toArray, List.getElem_cons_succ, List.getElem_cons_zero, Act.put, List.setIfInBounds_toArray, List.set_cons_zero, List.set_cons_succ]
          refine tk 8 rfl (by kernel_rfl) hHeld (fun _ _ _ h => h) (v := ?_) ?_ ?_
          rotate_left 1
          · (intro w hSw; (try dsimp only at hSw); (try simp only [List.getElem_toArray, List.getElem_cons_succ, List.getElem_cons_zero]); go_simp) <;> (with_reducible rfl)
          try simp only [List.getElem_toArray, List.getElem_cons_succ, List.getElem_cons_zero, Act.put, List.setIfInBounds_toArray, List.set_cons_zero, List.set_cons_succ]
          refine tk 9 rfl (by kernel_rfl) hHeld (fun _ _ _ h => h) (v := ?_) ?_ ?_
          rotate_left 1
          · (intro w hSw; (try dsimp only at hSw); (try simp only [List.getElem_toArray, List.getElem_cons_succ, List.getElem_cons_zero]); go_simp) <;> (with_reducible rfl)
          try simp only [List.getElem_toArray, List.getElem_cons_succ, List.getElem_cons_zero, Act.put, List.setIfInBounds_toArray, List.set_cons_zero, List.set_cons_succ]
          refine tk 10 rfl (by kernel_rfl) hHeld (fun _ _ _ h => h) (v := ?_) ?_ ?_
          rotate_left 1
          · (intro w hSw; (try dsimp only at hSw); (try simp only [List.getElem_toArray, List.getElem_cons_succ, List.getElem_cons_zero]); go_simp) <;> (with_reducible rfl)
          try simp only [List.getElem_toArray, List.getElem_cons_succ, List.getElem_cons_zero, Act.put, List.setIfInBounds_toArray, List.set_cons_zero, List.set_cons_succ]
          refine tk 11 rfl (by kernel_rfl) hHeld (fun _ _ _ h => h) (v := ?_) ?_ ?_
          rotate_left 1
          · (intro w hSw; (try dsimp only at hSw); (try simp only [List.getElem_toArray, List.getElem_cons_succ, List.getElem_cons_zero]); go_simp) <;> (with_reducible rfl)
          try simp only [List.getElem_toArray, List.getElem_cons_succ, List.getElem_cons_zero, Act.put, List.setIfInBounds_toArray, List.set_cons_zero, List.set_cons_succ]
          refine tk 12 rfl (by kernel_rfl) hHeld (fun _ _ _ h => h) (v := ?_) ?_ ?_
          rotate_left 1
          · (intro w hSw; (try dsimp only at hSw); (try simp only [List.getElem_toArray, List.getElem_cons_succ, List.getElem_cons_zero]); go_simp) <;> (with_reducible rfl)
          try simp only [List.getElem_toArray, List.getElem_cons_succ, List.getElem_cons_zero, Act.put, List.setIfInBounds_toArray, List.set_cons_zero, List.set_cons_succ]
          refine tk 13 rfl (by kernel_rfl) hHeld (fun _ _ _ h => h) (v := ?_) ?_ ?_
          rotate_left 1
          · (intro w hSw; (try dsimp only at hSw); (try simp only [List.getElem_toArray, List.getElem_cons_succ, List.getElem_cons_zero]); go_simp) <;> (with_reducible rfl)
          try simp only [List.getElem_toArray, List.getElem_cons_succ, List.getElem_cons_zero, Act.put, List.setIfInBounds_toArray, List.set_cons_zero, List.set_cons_succ]
          refine tk 14 rfl (by kernel_rfl) hHeld (fun _ _ _ h => h) (v := ?_) ?_ ?_
          rotate_left 1
          · (intro w hSw; (try dsimp only at hSw); (try simp only [List.getElem_toArray, List.getElem_cons_succ, List.getElem_cons_zero]); go_simp) <;> (with_reducible rfl)
          try simp only [List.getElem_toArray, List.getElem_cons_succ, List.getElem_cons_zero, Act.put, List.setIfInBounds_toArray, List.set_cons_zero, List.set_cons_succ]
          refine tk 15 rfl (by kernel_rfl) hHeld (fun _ _ _ h => h) (v := ?_) ?_ ?_
          rotate_left 1
          · (intro w hSw; (try dsimp only at hSw); (try simp only [List.getElem_toArray, List.getElem_cons_succ, List.getElem_cons_zero]); go_simp) <;> (with_reducible rfl)
          try simp only [List.getElem_toArray, List.getElem_cons_succ, List.getElem_cons_zero, Act.put, List.setIfInBounds_toArray, List.set_cons_zero, List.set_cons_succ]
          refine tk 16 rfl (by kernel_rfl) hHeld (fun _ _ _ h => h) (v := ?_) ?_ ?_
          rotate_left 1
          · (intro w hSw; (try dsimp only at hSw); (try simp only [List.getElem_toArray, List.getElem_cons_succ, List.getElem_cons_zero]); go_simp) <;> (with_reducible rfl)
          try simp only [List.getElem_toArray, List.getElem_cons_succ, List.getElem_cons_zero, Act.put, List.setIfInBounds_toArray, List.set_cons_zero, List.set_cons_succ]
          refine tk 17 rfl (by kernel_rfl) hHeld (fun _ _ _ h => h) (v := ?_) ?_ ?_
          rotate_left 1
          · (intro w hSw; (try dsimp only at hSw); (try simp only [List.getElem_toArray, List.getElem_cons_succ, List.getElem_cons_zero]); go_simp) <;> (with_reducible rfl)
          try simp only [List.getElem_toArray, List.getElem_cons_succ, List.getElem_cons_zero, Act.put, List.setIfInBounds_toArray, List.set_cons_zero, List.set_cons_succ]
          refine tk 18 rfl (by kernel_rfl) hHeld (fun _ _ _ h => h) (v := ?_) ?_ ?_
          rotate_left 1
          · (intro w hSw; (try dsimp only at hSw); (try simp only [List.getElem_toArray, List.getElem_cons_succ, List.getElem_cons_zero]); go_simp) <;> (with_reducible rfl)
          try simp only [List.getElem_toArray, List.getElem_cons_succ, List.getElem_cons_zero, Act.put, List.setIfInBounds_toArray, List.set_cons_zero, List.set_cons_succ]
          refine tk 19 rfl (by kernel_rfl) hHeld (fun _ _ _ h => h) (v := ?_) ?_ ?_
          rotate_left 1
          · (intro w hSw; (try dsimp only at hSw); (try simp only [List.getElem_toArray, List.getElem_cons_succ, List.getElem_cons_zero]); go_simp) <;> (with_reducible rfl)
          try simp only [List.getElem_toArray, List.getElem_cons_succ, List.getElem_cons_zero, Act.put, List.setIfInBounds_toArray, List.set_cons_zero, List.set_cons_succ]
          refine tk 20 rfl (by kernel_rfl) hHeld (fun _ _ _ h => h) (v := ?_) ?_ ?_
          rotate_left 1
          · (intro w hSw; (try dsimp only at hSw); (try simp only [List.getElem_toArray, List.getElem_cons_succ, List.getElem_cons_zero]); go_simp) <;> (with_reducible rfl)
          try simp only [List.getElem_toArray, List.getElem_cons_succ, List.getElem_cons_zero, Act.put, List.setIfInBounds_toArray, List.set_cons_zero, List.set_cons_succ]
          refine tk 21 rfl (by kernel_rfl) hHeld (fun _ _ _ h => h) (v := ?_) ?_ ?_
          rotate_left 1
          · (intro w hSw; (try dsimp only at hSw); (try simp only [List.getElem_toArray, List.getElem_cons_succ, List.getElem_cons_zero]); go_simp) <;> (with_reducible rfl)
          try simp only [List.getElem_toArray, List.getElem_cons_succ, List.getElem_cons_zero, Act.put, List.setIfInBounds_toArray, List.set_cons_zero, List.set_cons_succ]
          refine tk 22 rfl (by kernel_rfl) hHeld (fun _ _ _ h => h) (v := ?_) ?_ ?_
          rotate_left 1
          · (intro w hSw; (try dsimp only at hSw); (try simp only [List.getElem_toArray, List.getElem_cons_succ, List.getElem_cons_zero]); go_simp) <;> (with_reducible rfl)
          try simp only [List.getElem_toArray, List.getElem_cons_succ, List.getElem_cons_zero, Act.put, List.setIfInBounds_toArray, List.set_cons_zero, List.set_cons_succ]
          refine tk 23 rfl (by kernel_rfl) hHeld (fun _ _ _ h => h) (v := ?_) ?_ ?_
          rotate_left 1
          · (intro w hSw; (try dsimp only at hSw); (try simp only [List.getElem_toArray, List.getElem_cons_succ, List.getElem_cons_zero]); go_simp) <;> (with_reducible rfl)
          try simp only [List.getElem_toArray, List.getElem_cons_succ, List.getElem_cons_zero, Act.put, List.setIfInBounds_toArray, List.set_cons_zero, List.set_cons_succ]
          refine tk 24 rfl (by kernel_rfl) hHeld (fun _ _ _ h => h) (v := ?_) ?_ ?_
          rotate_left 1
          · (intro w hSw; (try dsimp only at hSw); (try simp only [List.getElem_toArray, List.getElem_cons_succ, List.getElem_cons_zero]); go_simp) <;> (with_reducible rfl)
          try simp only [List.getElem_toArray, List.getElem_cons_succ, List.getElem_cons_zero, Act.put, List.setIfInBounds_toArray, List.set_cons_zero, List.set_cons_succ]
          refine tk 25 rfl (by kernel_rfl) hHeld (fun _ _ _ h => h) (v := ?_) ?_ ?_
          rotate_left 1
          · (intro w hSw; (try dsimp only at hSw); (try simp only [List.getElem_toArray, List.getElem_cons_succ, List.getElem_cons_zero]); go_simp) <;> (with_reducible rfl)
          try simp only [List.getElem_toArray, List.getElem_cons_succ, List.getElem_cons_zero, Act.put, List.setIfInBounds_toArray, List.set_cons_zero, List.set_cons_succ]
          refine tk 26 rfl (by kernel_rfl) hHeld (fun _ _ _ h => h) (v := ?_) ?_ ?_
          rotate_left 1
          · (intro w hSw; (try dsimp only at hSw); (try simp only [List.getElem_toArray, List.getElem_cons_succ, List.getElem_cons_zero]); go_simp) <;> (with_reducible rfl)
          try simp only [List.getElem_toArray, List.getElem_cons_succ, List.getElem_cons_zero, Act.put, List.setIfInBounds_toArray, List.set_cons_zero, List.set_cons_succ]
          refine tk 27 rfl (by kernel_rfl) hHeld (fun _ _ _ h => h) (v := ?_) ?_ ?_
          rotate_left 1
          · (intro w hSw; (try dsimp only at hSw); (try simp only [List.getElem_toArray, List.getElem_cons_succ, List.getElem_cons_zero]); go_simp) <;> (with_reducible rfl)
          try simp only [List.getElem_toArray, List.getElem_cons_succ, List.getElem_cons_zero, Act.put, List.setIfInBounds_toArray, List.set_cons_zero, List.set_cons_succ]
          refine tk 28 rfl (by kernel_rfl) hHeld (fun _ _ _ h => h) (v := ?_) ?_ ?_
          rotate_left 1
          · (intro w hSw; (try dsimp only at hSw); (try simp only [List.getElem_toArray, List.getElem_cons_succ, List.getElem_cons_zero]); go_simp) <;> (with_reducible rfl)
          try simp only [List.getElem_toArray, List.getElem_cons_succ, List.getElem_cons_zero, Act.put, List.setIfInBounds_toArray, List.set_cons_zero, List.set_cons_succ]
          refine tk 29 rfl (by kernel_rfl) hHeld (fun _ _ _ h => h) (v := ?_) ?_ ?_
          rotate_left 1
          · (intro w hSw; (try dsimp only at hSw); (try simp only [List.getElem_toArray, List.getElem_cons_succ, List.getElem_cons_zero]); go_simp) <;> (with_reducible rfl)
          try simp only [List.getElem_toArray, List.getElem_cons_succ, List.getElem_cons_zero, Act.put, List.setIfInBounds_toArray, List.set_cons_zero, List.set_cons_succ]
          refine tk 30 rfl (by kernel_rfl) hHeld (fun _ _ _ h => h) (v := ?_) ?_ ?_
          rotate_left 1
          · (intro w hSw; (try dsimp only at hSw); (try simp only [List.getElem_toArray, List.getElem_cons_succ, List.getElem_cons_zero]); go_simp) <;> (with_reducible rfl)
          try simp only [List.getElem_toArray, List.getElem_cons_succ, List.getElem_cons_zero, Act.put, List.setIfInBounds_toArray, List.set_cons_zero, List.set_cons_succ]
          refine tk 31 rfl (by kernel_rfl) hHeld (fun _ _ _ h => h) (v := ?_) ?_ ?_
          rotate_left 1
          · (intro w hSw; (try dsimp only at hSw); (try simp only [List.getElem_toArray, List.getElem_cons_succ, List.getElem_cons_zero]); go_simp) <;> (with_reducible rfl)
          try simp only [List.getElem_toArray, List.getElem_cons_succ, List.getElem_cons_zero, Act.put, List.setIfInBounds_toArray, List.set_cons_zero, List.set_cons_succ]
          refine tk 32 rfl (by kernel_rfl) hHeld (fun _ _ _ h => h) (v := ?_) ?_ ?_
          rotate_left 1
          · (intro w hSw; (try dsimp only at hSw); (try simp only [List.getElem_toArray, List.getElem_cons_succ, List.getElem_cons_zero]); go_simp) <;> (with_reducible rfl)
          try simp only [List.getElem_toArray, List.getElem_cons_succ, List.getElem_cons_zero, Act.put, List.setIfInBounds_toArray, List.set_cons_zero, List.set_cons_succ]
          refine tk 33 rfl (by kernel_rfl) hHeld (fun _ _ _ h => h) (v := ?_) ?_ ?_
          rotate_left 1
          · (intro w hSw; (try dsimp only at hSw); (try simp only [List.getElem_toArray, List.getElem_cons_succ, List.getElem_cons_zero]); go_simp) <;> (with_reducible rfl)
          try simp only [List.getElem_toArray, List.getElem_cons_succ, List.getElem_cons_zero, Act.put, List.setIfInBounds_toArray, List.set_cons_zero, List.set_cons_succ]
          refine tk 34 rfl (by kernel_rfl) hHeld (fun _ _ _ h => h) (v := ?_) ?_ ?_
          rotate_left 1
          · (intro w hSw; (try dsimp only at hSw); (try simp only [List.getElem_toArray, List.getElem_cons_succ, List.getElem_cons_zero]); go_simp) <;> (with_reducible rfl)
          try simp only [List.getElem_toArray, List.getElem_cons_succ, List.getElem_cons_zero, Act.put, List.setIfInBounds_toArray, List.set_cons_zero, List.set_cons_succ]
          refine tk 35 rfl (by kernel_rfl) hHeld (fun _ _ _ h => h) (v := ?_) ?_ ?_
          rotate_left 1
          · (intro w hSw; (try dsimp only at hSw); (try simp only [List.getElem_toArray, List.getElem_cons_succ, List.getElem_cons_zero]); go_simp) <;> (with_reducible rfl)
          try simp only [List.getElem_toArray, List.getElem_cons_succ, List.getElem_cons_zero, Act.put, List.setIfInBounds_toArray, List.set_cons_zero, List.set_cons_succ]
          refine tk 36 rfl (by kernel_rfl) hHeld (fun _ _ _ h => h) (v := ?_) ?_ ?_
          rotate_left 1
          · (intro w hSw; (try dsimp only at hSw); (try simp only [List.getElem_toArray, List.getElem_cons_succ, List.getElem_cons_zero]); go_simp) <;> (with_reducible rfl)
          try simp only [List.getElem_toArray, List.getElem_cons_succ, List.getElem_cons_zero, Act.put, List.setIfInBounds_toArray, List.set_cons_zero, List.set_cons_succ]
          refine tk 37 rfl (by kernel_rfl) hHeld (fun _ _ _ h => h) (v := ?_) ?_ ?_
          rotate_left 1
          · (intro w hSw; (try dsimp only at hSw); (try simp only [List.getElem_toArray, List.getElem_cons_succ, List.getElem_cons_zero]); go_simp) <;> (with_reducible rfl)
          try simp only [List.getElem_toArray, List.getElem_cons_succ, List.getElem_cons_zero, Act.put, List.setIfInBounds_toArray, List.set_cons_zero, List.set_cons_succ]
          refine tk 38 rfl (by kernel_rfl) hHeld (fun _ _ _ h => h) (v := ?_) ?_ ?_
          rotate_left 1
          · (intro w hSw; (try dsimp only at hSw); (try simp only [List.getElem_toArray, List.getElem_cons_succ, List.getElem_cons_zero]); go_simp) <;> (with_reducible rfl)
          try simp only [List.getElem_toArray, List.getElem_cons_succ, List.getElem_cons_zero, Act.put, List.setIfInBounds_toArray, List.set_cons_zero, List.set_cons_succ]
          refine tk 39 rfl (by kernel_rfl) hHeld (fun _ _ _ h => h) (v := ?_) ?_ ?_
          rotate_left 1
          · (intro w hSw; (try dsimp only at hSw); (try simp only [List.getElem_toArray, List.getElem_cons_succ, List.getElem_cons_zero]); go_simp) <;> (with_reducible rfl)
          try simp only [List.getElem_toArray, List.getElem_cons_succ, List.getElem_cons_zero, Act.put, List.setIfInBounds_toArray, List.set_cons_zero, List.set_cons_succ]
          refine tk 40 rfl (by kernel_rfl) hHeld (fun _ _ _ h => h) (v := ?_) ?_ ?_
          rotate_left 1
          · (intro w hSw; (try dsimp only at hSw); (try simp only [List.getElem_toArray, List.getElem_cons_succ, List.getElem_cons_zero]); go_simp) <;> (with_reducible rfl)
          try simp only [List.getElem_toArray, List.getElem_cons_succ, List.getElem_cons_zero, Act.put, List.setIfInBounds_toArray, List.set_cons_zero, List.set_cons_succ]
          refine tk 41 rfl (by kernel_rfl) hHeld (fun _ _ _ h => h) (v := ?_) ?_ ?_
          rotate_left 1
          · (intro w hSw; (try dsimp only at hSw); (try simp only [List.getElem_toArray, List.getElem_cons_succ, List.getElem_cons_zero]); go_simp) <;> (with_reducible rfl)
          try simp only [List.getElem_toArray, List.getElem_cons_succ, List.getElem_cons_zero, Act.put, List.setIfInBounds_toArray, List.set_cons_zero, List.set_cons_succ]
          refine tk 42 rfl (by kernel_rfl) hHeld (fun _ _ _ h => h) (v := ?_) ?_ ?_
          rotate_left 1
          · (intro w hSw; (try dsimp only at hSw); (try simp only [List.getElem_toArray, List.getElem_cons_succ, List.getElem_cons_zero]); go_simp) <;> (with_reducible rfl)
          try simp only [List.getElem_toArray, List.getElem_cons_succ, List.getElem_cons_zero, Act.put, List.setIfInBounds_toArray, List.set_cons_zero, List.set_cons_succ]
          refine tk 43 rfl (by kernel_rfl) hHeld (fun _ _ _ h => h) (v := ?_) ?_ ?_
          rotate_left 1
          · (intro w hSw; (try dsimp only at hSw); (try simp only [List.getElem_toArray, List.getElem_cons_succ, List.getElem_cons_zero]); go_simp) <;> (with_reducible rfl)
          try simp only [List.getElem_toArray, List.getElem_cons_succ, List.getElem_cons_zero, Act.put, List.setIfInBounds_toArray, List.set_cons_zero, List.set_cons_succ]
          refine tk 44 rfl (by kernel_rfl) hHeld (fun _ _ _ h => h) (v := ?_) ?_ ?_
          rotate_left 1
          · (intro w hSw; (try dsimp only at hSw); (try simp only [List.getElem_toArray, List.getElem_cons_succ, List.getElem_cons_zero]); go_simp) <;> (with_reducible rfl)
          try simp only [List.getElem_toArray, List.getElem_cons_succ, List.getElem_cons_zero, Act.put, List.setIfInBounds_toArray, List.set_cons_zero, List.set_cons_succ]
          refine tk 45 rfl (by kernel_rfl) hHeld (fun _ _ _ h => h) (v := ?_) ?_ ?_
          rotate_left 1
          · (intro w hSw; (try dsimp only at hSw); (try simp only [List.getElem_toArray, List.getElem_cons_succ, List.getElem_cons_zero]); go_simp) <;> (with_reducible rfl)
          try simp only [List.getElem_toArray, List.getElem_cons_succ, List.getElem_cons_zero, Act.put, List.setIfInBounds_toArray, List.set_cons_zero, List.set_cons_succ]
          refine tk 46 rfl (by kernel_rfl) hHeld (fun _ _ _ h => h) (v := ?_) ?_ ?_
          rotate_left 1
          · (intro w hSw; (try dsimp only at hSw); (try simp only [List.getElem_toArray, List.getElem_cons_succ, List.getElem_cons_zero]); go_simp) <;> (with_reducible rfl)
          try simp only [List.getElem_toArray, List.getElem_cons_succ, List.getElem_cons_zero, Act.put, List.setIfInBounds_toArray, List.set_cons_zero, List.set_cons_succ]
          refine tk 47 rfl (by kernel_rfl) hHeld (fun _ _ _ h => h) (v := ?_) ?_ ?_
          rotate_left 1
          · (intro w hSw; (try dsimp only at hSw); (try simp only [List.getElem_toArray, List.getElem_cons_succ, List.getElem_cons_zero]); go_simp) <;> (with_reducible rfl)
          try simp only [List.getElem_toArray, List.getElem_cons_succ, List.getElem_cons_zero, Act.put, List.setIfInBounds_toArray, List.set_cons_zero, List.set_cons_succ]
          refine tk 49 rfl (by kernel_rfl) hHeld (fun _ _ _ h => h) (v := ?_) ?_ ?_
          rotate_left 1
          · (intro w hSw; (try dsimp only at hSw); (try simp only [List.getElem_toArray, List.getElem_cons_succ, List.getElem_cons_zero]); go_simp) <;> (with_reducible rfl)
          try simp only [List.getElem_toArray, List.getElem_cons_succ, List.getElem_cons_zero, Act.put, List.setIfInBounds_toArray, List.set_cons_zero, List.set_cons_succ]
          refine tk 50 rfl (by kernel_rfl) hHeld (fun _ _ _ h => h) (v := ?_) ?_ ?_
          rotate_left 1
          · (intro w hSw; (try dsimp only at hSw); (try simp only [List.getElem_toArray, List.getElem_cons_succ, List.getElem_cons_zero]); go_simp) <;> (with_reducible rfl)
          try simp only [List.getElem_toArray, List.getElem_cons_succ, List.getElem_cons_zero, Act.put, List.setIfInBounds_toArray, List.set_cons_zero, List.set_cons_succ]
          refine wpAnyH_ready (rs := [48]) (by kernel_rfl) (by simp) (AllReadyH.cons rfl (fun K hK => ?_) AllReadyH.nil)
          simp only [List.getElem_toArray, List.getElem_cons_succ, List.getElem_cons_zero]
          go_simp
          go_at_call 32
          refine (MV2.out wd (H5b.out.below bd).i.items (SI8.out.below bd SI8.out.lt).by_ (by have := SI8.out.lt; have := bd.size; omega)).mono ?_
          rintro e wa ⟨A9, c9, rfl, hc9, own9, bz⟩
          try go_wp2_with fail
          have ba := bd.trans (bz.mono bd.size)
          have U9 := Lib.hid (Q.us_mv own9 (fun m hm => ((H5b.out.below ba).i.items.el m hm)))
          refine hK.out _ _ (CELL.out _ ba) (fun hHeld => ?_)
          clear hK K bz own9 hc9
          try simp only [List.getElem_toArray, List.getElem_cons_succ, List.getElem_cons_zero, Act.put, List.setIfInBounds_toArray, List.set_cons_zero, List.set_cons_succ]
          refine wpAnyH_ready (rs := [51]) (by kernel_rfl) (by simp) (AllReadyH.cons rfl (fun K hK => ?_) AllReadyH.nil)
          simp only [List.getElem_toArray, List.getElem_cons_succ, List.getElem_cons_zero]
          go_simp
          go_at_call 31
          have SU := sameuts_any A9 ai8 c9 ci8 wa.heap.size (it5.map (fun x => Q.Um.mv x x1)) it8 wa U9.out (H8.out.below ba).i.items (Nat.le_refl _) (by rw [IT.out, List.map_map, List.map_map]; rfl) (by rw [List.length_map]; unfold maxLen; omega) (fun m hm => by obtain ⟨x, hx, rfl⟩ := List.mem_map.1 hm; exact (SX.out.2.2 x.u (List.mem_map.2 ⟨x, hx, rfl⟩)).ok)
          rw [List.length_map] at SU
          refine SU.mono ?_
          clear SU
          rintro e wb ⟨rfl, bz⟩
          try go_wp2_with fail
          have bb := ba.trans (bz.mono ba.size)
          refine hK.out _ _ (CELL.out _ bb) (fun hHeld => ?_)
          clear hK K bz
          try simp only [List.getElem_toArray, List.getElem_cons_succ, List.getElem_cons_zero, Act.put, List.setIfInBounds_toArray, List.set_cons_zero, List.set_cons_succ]
          refine tk 52 rfl (by kernel_rfl) hHeld (fun _ _ _ h => h) (v := ?_) ?_ ?_
          rotate_left 1
          · (intro w hSw; (try dsimp only at hSw); (try simp only [List.getElem_toArray, List.getElem_cons_succ, List.getElem_cons_zero]); go_simp) <;> (with_reducible rfl)
          try simp only [List.getElem_toArray, List.getElem_cons_succ, List.getElem_cons_zero, Act.put, List.setIfInBounds_toArray, List.set_cons_zero, List.set_cons_succ]
          refine tk 53 rfl (by kernel_rfl) hHeld (fun _ _ _ h => h) (v := ?_) ?_ ?_
          rotate_left 1
          · (intro w hSw; (try dsimp only at hSw); (try simp only [List.getElem_toArray, List.getElem_cons_succ, List.getElem_cons_zero]); go_simp) <;> (with_reducible rfl)
          try simp only [List.getElem_toArray, List.getElem_cons_succ, List.getElem_cons_zero, Act.put, List.setIfInBounds_toArray, List.set_cons_zero, List.set_cons_succ]
          refine wpAnyH_done (by kernel_rfl) ?_ _
          have BB := Lib.hid bb
          clear bb ba bd
          go_wp2_with fail
          go_loopw [160] (fun v wr => ∃ k : Nat, k ≤ ss5.length ∧ v = .int .i64 k ∧ Hid (Below W9.heap.size W9 wr)) (fun v _ => ss5.length - (intOf v).toNat)
          case atStart => exact ⟨0, Nat.zero_le _, rfl, BB⟩
          case round =>
            obtain ⟨k, hk, rfl, hB⟩ := hrel
            by_cases hlt : k < ss5.length
            · have hr5 : Reads _ _ 8 A5 ss5.length (Q.scs ss5) := (R5b.out.on hB.out).row
              have hr8 : Reads _ _ 8 A8 ss8.length (Q.scs ss8) := (R8.out.on hB.out).row
              have hlt8 : k < ss8.length := by have := HLS.out; omega
              obtain ⟨p1_, o1, rfl, _, hcl1⟩ := Q.reads_sp hr5 (Nat.lt_of_le_of_lt (Nat.zero_le k) hlt)
              obtain ⟨p2_, o2, rfl, _, hcl2⟩ := Q.reads_sp hr8 (Nat.lt_of_le_of_lt (Nat.zero_le k) hlt8)
              obtain ⟨_, _, _, _, _, r5, r6, _⟩ := hcl1 k hlt
              obtain ⟨_, _, _, _, _, g5, g6, _⟩ := hcl2 k hlt8
              have za := (SI8.out.below hB.out SI8.out.lt).by_
              have q0 : decide ((k : Int) < (ss5.length : Int)) = true := decide_eq_true (by omega)
              have q1 : (0 : Int) ≤ (k : Int) := by omega
              have q2 : (k : Int) < (ss5.length : Int) := by omega
              have q3 : (k : Int) < (ss8.length : Int) := by omega
              have hk1 : k + 1 ≤ 9 := by omega
              have hb := XB.out (ss5[k].a) (by rw [← ES5.out]; exact List.mem_map.2 ⟨_, List.getElem_mem hlt, rfl⟩)
              have hee : ss8[k].a = (ss5[k].a).mv x1 := by
                have h1 := congrArg (fun l => l[k]?) ES8.out
                rw [← ES5.out] at h1
                simpa [hlt, hlt8] using h1
              have hbe : ss8[k].be = ss5[k].be + x1 := congrArg Q.Sa.be hee
              have hen : ss8[k].en = ss5[k].en + x1 := congrArg Q.Sa.en hee
              simp only [Q.Sm.a] at hb
              obtain ⟨y1, hy1⟩ : ∃ y, ss5[k].be = y := ⟨_, rfl⟩
              obtain ⟨y2, hy2⟩ : ∃ y, ss5[k].en = y := ⟨_, rfl⟩
              rw [hbe, hy1] at g5
              rw [hen, hy2] at g6
              rw [hy1] at r5 hb
              rw [hy2] at r6 hb
              have w6_ : IntKind.i64.wrap (y1 + x1) = y1 + x1 := by have := LX.out; have := TT.out; simp [IntKind.wrap, IntKind.bits, IntKind.signed]; omega
              have w7_ : IntKind.i64.wrap (y2 + x1) = y2 + x1 := by have := LX.out; have := TT.out; simp [IntKind.wrap, IntKind.bits, IntKind.signed]; omega
              clear hr5 hr8 hcl1 hcl2 hb hee hbe hen hy1 hy2
              go_wp2_with fail
              go_quiet (fail)
              go_wp2
              go_roundw
              case rel => exact ⟨k + 1, by omega, by go_num, Lib.hid (below_drewN hB.out _)⟩
              case measure => simp [intOf] <;> omega
            · have q0 : decide ((k : Int) < (ss5.length : Int)) = false := decide_eq_false (by omega)
              go_wp2_with (first
                | (go_at_call 13; go_loud ((refine (AWK.out _).mono ?_); (rintro e wE ⟨rfl, bE⟩); (have BE := Lib.hid ((SI8.out.b.trans (hB.out.mono SI8.out.b.size)).trans (bE.mono (Nat.le_trans SI8.out.b.size hB.out.size)))); (clear bE))))
              go_ret
              exact ⟨rfl, BE.out⟩
end Go.Proofs.Ytfjkelngdljikaa
