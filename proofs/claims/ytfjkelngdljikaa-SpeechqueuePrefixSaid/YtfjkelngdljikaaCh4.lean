/-
  The walks of layer 44: Check and the reference's Check. By an AI agent.
-/
import Derived.Test.YtfjkelngdljikaaSz
namespace Go.Proofs.Ytfjkelngdljikaa
set_option linter.unusedVariables false
set_option linter.unusedSimpArgs false
open Go.RowKit Go.Deep

set_option maxRecDepth 100000 in
set_option maxHeartbeats 3000000 in
theorem check_any (q : Q.Qm) (B : Nat) (w : World) (hr : Reads w B 5 q.ai q.items.length (Q.ucs q.items)) (hB : B ≤ w.heap.size) (hl : q.items.length ≤ maxLen) (hm : Q.Len q.items) (hw : q.cur.u.words.length ≤ maxLen) (hc : q.cur.u.chs.length ≤ maxLen) :
    Calls Try.prog 17 #[.agg q.cells.toArray] w fun e w' => e = .returned (.int .i64 (Q.chk q.a)) ∧ Below w.heap.size w w' := by
  obtain ⟨ck, rt, sp, ⟨cu, aw, cw, ac, cc⟩, be, en, items, ai, ci⟩ := q
  simp only [Q.Qm.cells, Q.Qm.a]
  simp only at hr hl hm hw hc
  have PR := fun W => proper_any (⟨cu, aw, cw, ac, cc⟩ : Q.Um) W hw hc
  have NN := fun W => none_any (⟨cu, aw, cw, ac, cc⟩ : Q.Um) W hw hc
  have AL := fun (W : World) (h : Below w.heap.size w W) => all_any ai ci B items W (hr.below h hB) (Nat.le_trans hB h.size) hl hm
  have HD := fun (W : World) (h : Below w.heap.size w W) => hr.below h hB
  simp only [Q.Um.cells] at PR NN
  have CLK := fun h => Q.chk_clock (q := ⟨ck, rt, sp, cu, be, en, items.map (·.u)⟩) h
  have CPR := fun h hs hp => Q.chk_pr (q := ⟨ck, rt, sp, cu, be, en, items.map (·.u)⟩) h hs hp
  have COR := fun h hs hp ho => Q.chk_ord (q := ⟨ck, rt, sp, cu, be, en, items.map (·.u)⟩) h hs hp ho
  have CNO := fun h hs hn => Q.chk_none (q := ⟨ck, rt, sp, cu, be, en, items.map (·.u)⟩) h hs hn
  have CT := fun h hs hp ho => Q.chk_t (q := ⟨ck, rt, sp, cu, be, en, items.map (·.u)⟩) h hs hp ho
  have CF := fun h hs hn => Q.chk_f (q := ⟨ck, rt, sp, cu, be, en, items.map (·.u)⟩) h hs hn
  have NIL : items.length = 0 → Q.soon ck (items.map (·.u)) = false := fun h => by rw [List.eq_nil_of_length_eq_zero h]; rfl
  have CONS : ∀ h : 0 < items.length, Q.soon ck (items.map (·.u)) = decide (items[0].u.af ≤ ck) := fun h => by
    cases items with
    | nil => exact absurd h (by simp)
    | cons x l => rfl
  simp only at CLK CPR COR CNO CT CF
  have HZ : (decide (cu = Q.zero) = false → cu ≠ Q.zero) ∧ (decide (cu = Q.zero) = true → ¬ cu ≠ Q.zero) := ⟨fun h => of_decide_eq_false h, fun h h2 => h2 (of_decide_eq_true h)⟩
  generalize Q.chk ⟨ck, rt, sp, cu, be, en, items.map (·.u)⟩ = R at *
  generalize Q.pr cu = pv at *
  generalize Q.prs (items.map (·.u)) = av at *
  generalize Q.soon ck (items.map (·.u)) = so at *
  generalize decide (cu = Q.zero) = dv at *
  generalize cu.words.length = z1 at *
  generalize cu.chs.length = z4 at *
  generalize cu.cl = z6 at *
  generalize cu.af = z7 at *
  generalize cu.up = z8 at *
  replace PR := Lib.hid PR
  replace NN := Lib.hid NN
  replace AL := Lib.hid AL
  replace HD := Lib.hid HD
  replace CLK := Lib.hid CLK
  replace CPR := Lib.hid CPR
  replace COR := Lib.hid COR
  replace CNO := Lib.hid CNO
  replace CT := Lib.hid CT
  replace CF := Lib.hid CF
  replace NIL := Lib.hid NIL
  replace CONS := Lib.hid CONS
  replace HZ := Lib.hid HZ
  unfold maxLen at hl hw hc
  clear hr hm
  by_cases g0 : ck < 0
  case pos =>
    have H := Lib.hid (CLK.out (by omega))
    have B0 := Lib.hid (below_box w (.cells #[.int .i64 ck, .int .i64 rt, .bool sp, .slice aw z1 cw, .slice ac z4 cc, .int .i64 z6, .int .i64 z7, .int .i64 z8, .int .i64 be, .int .i64 en, .slice ai items.length ci] 28))
    clear CLK CPR COR CNO CT CF PR NN AL HD NIL CONS HZ
    go_enter Try.func17, Try.ntmps17
    go_wp2_with fail
    go_ret
    exact ⟨ret_int H.out.symm, B0.out⟩
  by_cases g1 : 1099511627776 < ck
  case pos =>
    have H := Lib.hid (CLK.out (by omega))
    have B0 := Lib.hid (below_box w (.cells #[.int .i64 ck, .int .i64 rt, .bool sp, .slice aw z1 cw, .slice ac z4 cc, .int .i64 z6, .int .i64 z7, .int .i64 z8, .int .i64 be, .int .i64 en, .slice ai items.length ci] 28))
    clear CLK CPR COR CNO CT CF PR NN AL HD NIL CONS HZ
    go_enter Try.func17, Try.ntmps17
    go_wp2_with fail
    go_ret
    exact ⟨ret_int H.out.symm, B0.out⟩
  by_cases g2 : rt < 25
  case pos =>
    have H := Lib.hid (CLK.out (by omega))
    have B0 := Lib.hid (below_box w (.cells #[.int .i64 ck, .int .i64 rt, .bool sp, .slice aw z1 cw, .slice ac z4 cc, .int .i64 z6, .int .i64 z7, .int .i64 z8, .int .i64 be, .int .i64 en, .slice ai items.length ci] 28))
    clear CLK CPR COR CNO CT CF PR NN AL HD NIL CONS HZ
    go_enter Try.func17, Try.ntmps17
    go_wp2_with fail
    go_ret
    exact ⟨ret_int H.out.symm, B0.out⟩
  by_cases g3 : 400 < rt
  case pos =>
    have H := Lib.hid (CLK.out (by omega))
    have B0 := Lib.hid (below_box w (.cells #[.int .i64 ck, .int .i64 rt, .bool sp, .slice aw z1 cw, .slice ac z4 cc, .int .i64 z6, .int .i64 z7, .int .i64 z8, .int .i64 be, .int .i64 en, .slice ai items.length ci] 28))
    clear CLK CPR COR CNO CT CF PR NN AL HD NIL CONS HZ
    go_enter Try.func17, Try.ntmps17
    go_wp2_with fail
    go_ret
    exact ⟨ret_int H.out.symm, B0.out⟩
  have hg : ¬ (ck < 0 ∨ 1099511627776 < ck ∨ rt < 25 ∨ 400 < rt) := by omega
  clear CLK
  cases sp with
  | true =>
    have B0 := Lib.hid (below_box w (.cells #[.int .i64 ck, .int .i64 rt, .bool true, .slice aw z1 cw, .slice ac z4 cc, .int .i64 z6, .int .i64 z7, .int .i64 z8, .int .i64 be, .int .i64 en, .slice ai items.length ci] 28))
    have V0 : Hid ((w.alloc (.cells #[.int .i64 ck, .int .i64 rt, .bool true, .slice aw z1 cw, .slice ac z4 cc, .int .i64 z6, .int .i64 z7, .int .i64 z8, .int .i64 be, .int .i64 en, .slice ai items.length ci] 28)).heap[w.heap.size]? = some (.cells #[.int .i64 ck, .int .i64 rt, .bool true, .slice aw z1 cw, .slice ac z4 cc, .int .i64 z6, .int .i64 z7, .int .i64 z8, .int .i64 be, .int .i64 en, .slice ai items.length ci] 28 (0, 0))) := Lib.hid (heap_alloc_new w _)
    have s0 : w.heap.size < (w.alloc (.cells #[.int .i64 ck, .int .i64 rt, .bool true, .slice aw z1 cw, .slice ac z4 cc, .int .i64 z6, .int .i64 z7, .int .i64 z8, .int .i64 be, .int .i64 en, .slice ai items.length ci] 28)).heap.size := by simp
    go_enter Try.func17, Try.ntmps17
    go_wp2_with fail
    have BQ := B0
    have VQ := V0
    refine (PR.out _).mono ?_
    rintro e w1 ⟨rfl, bb⟩
    have B1 := Lib.hid (BQ.out.trans (bb.mono BQ.out.size))
    have V1 := Lib.hid ((bb.block w.heap.size (Array.getElem?_eq_some_iff.1 VQ.out).1).trans VQ.out)
    clear bb
    have k0 := cell_of_block_ (i := 0) V1.out
    have k1 := cell_of_block_ (i := 1) V1.out
    have k2 := cell_of_block_ (i := 2) V1.out
    have k3 := cell_of_block_ (i := 3) V1.out
    have k4 := cell_of_block_ (i := 4) V1.out
    have k5 := cell_of_block_ (i := 5) V1.out
    have k6 := cell_of_block_ (i := 6) V1.out
    have k7 := cell_of_block_ (i := 7) V1.out
    have k8 := cell_of_block_ (i := 8) V1.out
    have k9 := cell_of_block_ (i := 9) V1.out
    have k10 := cell_of_block_ (i := 10) V1.out
    simp at k0 k1 k2 k3 k4 k5 k6 k7 k8 k9 k10
    by_cases hp : pv = 0
    case neg =>
      have H := Lib.hid (CPR.out hg (by simp) hp)
      have hb : (pv != 0) = true := bne_iff_ne.2 hp
      clear CPR COR CNO CT CF PR NN AL HD NIL CONS HZ hp
      go_wp2_with fail
      go_ret
      exact ⟨ret_int H.out.symm, B1.out⟩
    subst hp
    by_cases o0 : be < z7
    case pos =>
      have H := Lib.hid (COR.out hg (by simp) (by simp) (by omega))
      clear CPR COR CNO CT CF PR NN AL HD NIL CONS HZ
      go_wp2_with fail
      go_ret
      exact ⟨ret_int H.out.symm, B1.out⟩
    by_cases o1 : ck < be
    case pos =>
      have H := Lib.hid (COR.out hg (by simp) (by simp) (by omega))
      clear CPR COR CNO CT CF PR NN AL HD NIL CONS HZ
      go_wp2_with fail
      go_ret
      exact ⟨ret_int H.out.symm, B1.out⟩
    by_cases o2 : en ≤ ck
    case pos =>
      have H := Lib.hid (COR.out hg (by simp) (by simp) (by omega))
      clear CPR COR CNO CT CF PR NN AL HD NIL CONS HZ
      go_wp2_with fail
      go_ret
      exact ⟨ret_int H.out.symm, B1.out⟩
    by_cases o3 : 2199023255552 < en
    case pos =>
      have H := Lib.hid (COR.out hg (by simp) (by simp) (by omega))
      clear CPR COR CNO CT CF PR NN AL HD NIL CONS HZ
      go_wp2_with fail
      go_ret
      exact ⟨ret_int H.out.symm, B1.out⟩
    have H := Lib.hid (CT.out hg (by simp) (by simp) (by omega))
    have AL1 := Lib.hid (AL.out _ B1.out)
    clear CPR COR CNO CT CF PR NN AL HD NIL CONS HZ
    go_wp2_with fail
    clear k0 k1 k2 k3 k4 k5 k6 k7 k8 k9 k10
    refine AL1.out.mono ?_
    rintro e w2 ⟨rfl, bb⟩
    have B2 := Lib.hid (B1.out.trans (bb.mono B1.out.size))
    have V2 := Lib.hid ((bb.block w.heap.size (Array.getElem?_eq_some_iff.1 V1.out).1).trans V1.out)
    clear bb
    have k0 := cell_of_block_ (i := 0) V2.out
    have k1 := cell_of_block_ (i := 1) V2.out
    have k2 := cell_of_block_ (i := 2) V2.out
    have k3 := cell_of_block_ (i := 3) V2.out
    have k4 := cell_of_block_ (i := 4) V2.out
    have k5 := cell_of_block_ (i := 5) V2.out
    have k6 := cell_of_block_ (i := 6) V2.out
    have k7 := cell_of_block_ (i := 7) V2.out
    have k8 := cell_of_block_ (i := 8) V2.out
    have k9 := cell_of_block_ (i := 9) V2.out
    have k10 := cell_of_block_ (i := 10) V2.out
    simp at k0 k1 k2 k3 k4 k5 k6 k7 k8 k9 k10
    by_cases ha : av = 0
    case neg =>
      have hb : (av != 0) = true := bne_iff_ne.2 ha
      clear ha
      go_wp2_with fail
      go_ret
      exact ⟨ret_int H.out.symm, B2.out⟩
    subst ha
    go_wp2_with fail
    go_quiet (fail)
    go_wp2_with fail
    go_ret
    exact ⟨ret_int H.out.symm, below_drewN B2.out _⟩
  | false =>
    have B0 := Lib.hid (below_box w (.cells #[.int .i64 ck, .int .i64 rt, .bool false, .slice aw z1 cw, .slice ac z4 cc, .int .i64 z6, .int .i64 z7, .int .i64 z8, .int .i64 be, .int .i64 en, .slice ai items.length ci] 28))
    have V0 : Hid ((w.alloc (.cells #[.int .i64 ck, .int .i64 rt, .bool false, .slice aw z1 cw, .slice ac z4 cc, .int .i64 z6, .int .i64 z7, .int .i64 z8, .int .i64 be, .int .i64 en, .slice ai items.length ci] 28)).heap[w.heap.size]? = some (.cells #[.int .i64 ck, .int .i64 rt, .bool false, .slice aw z1 cw, .slice ac z4 cc, .int .i64 z6, .int .i64 z7, .int .i64 z8, .int .i64 be, .int .i64 en, .slice ai items.length ci] 28 (0, 0))) := Lib.hid (heap_alloc_new w _)
    have s0 : w.heap.size < (w.alloc (.cells #[.int .i64 ck, .int .i64 rt, .bool false, .slice aw z1 cw, .slice ac z4 cc, .int .i64 z6, .int .i64 z7, .int .i64 z8, .int .i64 be, .int .i64 en, .slice ai items.length ci] 28)).heap.size := by simp
    go_enter Try.func17, Try.ntmps17
    go_wp2_with fail
    have BQ := B0
    have VQ := V0
    refine (NN.out _).mono ?_
    rintro e w1 ⟨rfl, bb⟩
    have B1 := Lib.hid (BQ.out.trans (bb.mono BQ.out.size))
    have V1 := Lib.hid ((bb.block w.heap.size (Array.getElem?_eq_some_iff.1 VQ.out).1).trans VQ.out)
    clear bb
    have k0 := cell_of_block_ (i := 0) V1.out
    have k1 := cell_of_block_ (i := 1) V1.out
    have k2 := cell_of_block_ (i := 2) V1.out
    have k3 := cell_of_block_ (i := 3) V1.out
    have k4 := cell_of_block_ (i := 4) V1.out
    have k5 := cell_of_block_ (i := 5) V1.out
    have k6 := cell_of_block_ (i := 6) V1.out
    have k7 := cell_of_block_ (i := 7) V1.out
    have k8 := cell_of_block_ (i := 8) V1.out
    have k9 := cell_of_block_ (i := 9) V1.out
    have k10 := cell_of_block_ (i := 10) V1.out
    simp at k0 k1 k2 k3 k4 k5 k6 k7 k8 k9 k10
    cases dv with
    | false =>
      have H := Lib.hid (CNO.out hg (by simp) (.inl (HZ.out.1 (by simp))))
      clear CPR COR CNO CT CF PR NN AL HD NIL CONS HZ
      go_wp2_with fail
      go_ret
      exact ⟨ret_int H.out.symm, B1.out⟩
    | true =>
      by_cases o0 : be = 0
      case neg =>
        have H := Lib.hid (CNO.out hg (by simp) (by exact .inr (.inl o0)))
        have hb : (be != 0) = true := bne_iff_ne.2 o0
        clear CPR COR CNO CT CF PR NN AL HD NIL CONS HZ o0
        go_wp2_with fail
        go_ret
        exact ⟨ret_int H.out.symm, B1.out⟩
      by_cases o1 : en = 0
      case neg =>
        have H := Lib.hid (CNO.out hg (by simp) (by exact .inr (.inr o1)))
        have hb : (en != 0) = true := bne_iff_ne.2 o1
        subst o0
        clear CPR COR CNO CT CF PR NN AL HD NIL CONS HZ o1
        go_wp2_with fail
        go_ret
        exact ⟨ret_int H.out.symm, B1.out⟩
      have H := Lib.hid (CF.out hg (by simp) (fun h => h.elim (fun h => HZ.out.2 (by simp) h) (fun h => h.elim (fun h => h o0) (fun h => h o1))))
      subst o0 o1
      have AL1 := Lib.hid (AL.out _ B1.out)
      clear CPR COR CNO CT CF PR NN AL HZ
      go_wp2_with fail
      clear k0 k1 k2 k3 k4 k5 k6 k7 k8 k9 k10
      refine AL1.out.mono ?_
      rintro e w2 ⟨rfl, bb⟩
      have B2 := Lib.hid (B1.out.trans (bb.mono B1.out.size))
      have V2 := Lib.hid ((bb.block w.heap.size (Array.getElem?_eq_some_iff.1 V1.out).1).trans V1.out)
      clear bb
      have k0 := cell_of_block_ (i := 0) V2.out
      have k1 := cell_of_block_ (i := 1) V2.out
      have k2 := cell_of_block_ (i := 2) V2.out
      have k3 := cell_of_block_ (i := 3) V2.out
      have k4 := cell_of_block_ (i := 4) V2.out
      have k5 := cell_of_block_ (i := 5) V2.out
      have k6 := cell_of_block_ (i := 6) V2.out
      have k7 := cell_of_block_ (i := 7) V2.out
      have k8 := cell_of_block_ (i := 8) V2.out
      have k9 := cell_of_block_ (i := 9) V2.out
      have k10 := cell_of_block_ (i := 10) V2.out
      simp at k0 k1 k2 k3 k4 k5 k6 k7 k8 k9 k10
      by_cases ha : av = 0
      case neg =>
        have H2 : Hid (R = av) := Lib.hid (by rw [H.out, if_pos ha])
        have hb : (av != 0) = true := bne_iff_ne.2 ha
        clear ha HD NIL CONS H
        go_wp2_with fail
        go_ret
        exact ⟨ret_int H2.out.symm, B2.out⟩
      subst ha
      rcases Nat.eq_zero_or_pos items.length with h0 | h0
      · have H2 : Hid (R = 0) := Lib.hid (by rw [H.out, NIL.out h0]; rfl)
        have hb : decide (0 < items.length) = false := decide_eq_false (by omega)
        clear HD NIL CONS H
        go_wp2_with fail
        go_quiet (fail)
        go_wp2_with fail
        go_ret
        exact ⟨ret_int H2.out.symm, below_drewN B2.out _⟩
      · have H2 : Hid (R = if decide (items[0].u.af ≤ ck) = true then 10 else 0) := Lib.hid (by rw [H.out, CONS.out h0]; rfl)
        obtain ⟨b, off, rfl, hbB, hcl⟩ := Q.reads_at (HD.out _ B2.out) h0
        obtain ⟨c0, c1, c2, c3, c4⟩ := hcl 0 h0
        simp only [Nat.zero_mul, Nat.add_zero] at c0 c1 c2 c3 c4
        have hb : decide (0 < items.length) = true := decide_eq_true h0
        have hb2 : (0 : Int) < (items.length : Int) := by omega
        clear HD NIL CONS H hcl
        generalize items[0].u.af = af at *
        by_cases hs : af ≤ ck
        case pos =>
          have H3 : Hid (R = 10) := Lib.hid (by rw [H2.out, if_pos (decide_eq_true hs)])
          have hb3 : decide (af ≤ ck) = true := decide_eq_true hs
          clear H2
          go_wp2_with fail
          go_quiet (fail)
          go_wp2_with fail
          go_ret
          exact ⟨ret_int H3.out.symm, below_drewN B2.out _⟩
        case neg =>
          have H3 : Hid (R = 0) := Lib.hid (by rw [H2.out, if_neg (by rw [decide_eq_true_iff]; exact hs)])
          have hb3 : decide (af ≤ ck) = false := decide_eq_false hs
          clear H2
          go_wp2_with fail
          go_quiet (fail)
          go_wp2_with fail
          go_ret
          exact ⟨ret_int H3.out.symm, below_drewN B2.out _⟩
end Go.Proofs.Ytfjkelngdljikaa
