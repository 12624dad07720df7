/-
  The statements of layer 29: AssignmentTranspose. By an AI agent.
-/
import Derived.Lib.SliceRun
import Derived.Laws.CopyOwn
import Derived.Test.YtnekhlklflgodaaOmt
namespace Go.Proofs.Ytnekhlklflgodaa
open Go.RowKit

set_option maxRecDepth 100000 in
set_option maxHeartbeats 16000000 in
theorem transposelaw_any (Al : Option Addr) (cl : Nat) (l : List Int) (x : Int) (w : World) (hr : Reads w w.heap.size 1 Al l.length (C.ns l)) (_ : ∀ z ∈ l, (Lit.int .i64 z).wf = true) (hy : l.length ≤ 17592186043904) (hx0 : 0 ≤ x) (hx1 : x ≤ 255) :
    Calls Try.prog 6 #[.slice Al l.length cl, .int .u8 x] w fun e w' => e = .returned (.bool true) ∧ Below w.heap.size w w' := by
  obtain ⟨s, rfl⟩ : ∃ s : Nat, x = s := ⟨x.toNat, by omega⟩
  obtain ⟨n, hn⟩ : ∃ n : Nat, s % 11 = n := ⟨_, rfl⟩
  have hn12 : n < 11 := by omega
  have us : ((s : Int)) % 11 = (n : Int) := by omega
  have uc : IntKind.i64.wrap (s : Int) = (s : Int) := by simp [IntKind.wrap, IntKind.bits, IntKind.signed]; omega
  have HN := Lib.hid hn
  clear hn
  by_cases h150 : 150 < l.length
  · go_enter Try.func6, Try.ntmps6
    go_wp2_with fail
    refine (awake_any _).mono ?_
    rintro e' w9 ⟨rfl, b9⟩
    go_wp2_with fail
    go_ret
    exact ⟨rfl, b9⟩
  · have h150' : decide ((150 : Int) < (l.length : Int)) = false := decide_eq_false (by omega)
    have h150'' : decide (150 < l.length) = false := decide_eq_false h150
    have MA := Lib.hid (fun (w' : World) (hb : Below w.heap.size w w') => matrix_any w.heap.size Al cl l n 1000 w' (hr.below hb (Nat.le_refl _)) hb.size (by omega) (by omega) (by omega))
    have SQ := Lib.hid (C.mtx_sq l (mo := 1000) (by omega) (by omega) (n := n) (by omega))
    clear hr h150
    have MT := Lib.hid (MA.out w (Below.refl _ _))
    go_enter Try.func6, Try.ntmps6
    go_wp2_with fail
    refine MT.out.mono ?_
    rintro e' w1 ⟨v, rs, rfl, hom, hmt, b1⟩
    clear MT
    have hl : rs.length = n := by have := congrArg List.length hmt; simpa [C.mt, C.mtx_len] using this
    have hq : C.Sq (C.mt rs) := by rw [hmt]; exact SQ.out
    have hrr : ∀ r ∈ C.mt rs, r.length = n := fun r hr => by rw [hq.2.1 r hr]; simp [C.mt, hl]
    obtain ⟨Am, cm, rfl, hmx⟩ := hom.mxB (by omega) hl hrr
    have HL := Lib.hid hl
    have HQ := Lib.hid hq
    have HRR := Lib.hid hrr
    have HMX := Lib.hid hmx
    have B1 := Lib.hid b1
    have HMT := Lib.hid hmt
    have h01 := b1.size
    have MT := Lib.hid (MA.out w1 b1)
    clear hom hmt hmx hq b1 hl hrr
    try go_wp2_with fail
    refine MT.out.mono ?_
    rintro e' w2 ⟨vt, ts, rfl, hom, hmt, b2⟩
    clear MT MA
    have hl : ts.length = n := by have := congrArg List.length hmt; simpa [C.mt, C.mtx_len] using this
    have hq : C.Sq (C.mt ts) := by rw [hmt]; exact SQ.out
    have hrr : ∀ r ∈ C.mt ts, r.length = n := fun r hr => by rw [hq.2.1 r hr]; simp [C.mt, hl]
    obtain ⟨At, ct, rfl, _⟩ := hom.mxB (by omega) hl hrr
    have HT0 := Lib.hid hom
    have HTL := Lib.hid hl
    have HTR := Lib.hid hrr
    have B2 := Lib.hid b2
    have h12 := b2.size
    clear hom hmt hq b2 hl hrr SQ
    go_wp2_with fail
    have TP0 : Hid (C.Tp n (C.mt rs) (C.mt ts) 0 0) := Lib.hid ⟨by simp [C.mt, HTL.out], HTR.out, fun a b _ _ h => absurd h (by omega)⟩
    go_loopw [32] (fun v32 wr => ∃ i : Nat, ∃ rt, v32 = .int .i64 i ∧ i ≤ n ∧ Hid (C.Tp n (C.mt rs) (C.mt rt) i 0) ∧ Hid (C.Om wr w1.heap.size (.slice At n ct) rt) ∧ Hid (Below w1.heap.size w1 wr)) (fun v32 _ => n - (intOf v32).toNat)
    case atStart => exact ⟨0, ts, rfl, by omega, TP0, HT0, B2⟩
    case round =>
      clear TP0 HT0 B2
      obtain ⟨i, rt, rfl, hi, htp, hom, hbl⟩ := hrel
      by_cases hlt : i < n
      · go_wp2_with fail
        go_loopw [36] (fun v36 wr => ∃ j : Nat, ∃ rt, v36 = .int .i64 j ∧ j ≤ n ∧ Hid (C.Tp n (C.mt rs) (C.mt rt) i j) ∧ Hid (C.Om wr w1.heap.size (.slice At n ct) rt) ∧ Hid (Below w1.heap.size w1 wr)) (fun v36 _ => n - (intOf v36).toNat)
        case atStart => exact ⟨0, rt, rfl, by omega, htp, hom, hbl⟩
        case round =>
          clear htp hom hbl
          obtain ⟨j, rt, rfl, hj, htp, hom, hbl⟩ := hrel
          have hrl : rt.length = n := by have := htp.out.len; simpa [C.mt] using this
          by_cases hjt : j < n
          · obtain ⟨gt, ct', e⟩ := hom.out.shape (by omega)
            obtain rfl : At = some ⟨gt, 0, none⟩ := by injection e
            clear e
            obtain ⟨hg1, hg2, hgr⟩ := hom.out.at_out hrl
            have hjr : j < rt.length := by omega
            have hir : i < rs.length := by rw [HL.out]; exact hlt
            obtain ⟨gj, e1, hj1, hj2, hfz, hce, hst⟩ := hom.out.at_row hjr
            have y0 := hgr j hjr
            rw [e1] at y0
            have hlj : rt[j].2.2.length = n := htp.out.row _ (List.mem_map.2 ⟨rt[j], List.getElem_mem hjr, rfl⟩)
            have hli : rs[i].2.2.length = n := HRR.out _ (List.mem_map.2 ⟨rs[i], List.getElem_mem hir, rfl⟩)
            have hjl : j < rs[i].2.2.length := by omega
            obtain ⟨b1, o1, rfl, hb1, h1⟩ := HMX.out.at_ (by omega)
            have z0 := (hbl.out.cell (p := ⟨b1, o1 + i, none⟩) hb1).trans (h1 i hir)
            obtain ⟨b3, o3, hA, hb3, h3⟩ := C.nums_at (HMX.out.each rs[i] (List.getElem_mem hir)).1 (by omega)
            have z1 := (hbl.out.cell (p := ⟨b3, o3 + j, none⟩) hb3).trans (h3 j hjl)
            rw [hA] at z0
            have fz := hfz i
            have OM2 := Lib.hid (hst i rs[i].2.2[j]).drew
            have hmt2 := C.turn_mt hjr i rs[i].2.2[j]
            have TP2 := Lib.hid (htp.out.step hlt hjt)
            rw [C.at2_rs rs hir hjl, ← hmt2] at TP2
            have BB := Lib.hid ((hbl.out.setCell (p := ⟨gj, i, none⟩) hj1 (.int .i64 rs[i].2.2[j])).drew)
            rw [hlj] at y0
            rw [hli] at z0
            have q1 : (0 : Int) ≤ (i : Int) := by omega
            have q2 : (i : Int) < (n : Int) := by omega
            have q3 : (0 : Int) ≤ (j : Int) := by omega
            have q4 : (j : Int) < (n : Int) := by omega
            have x2 := hce i (by omega)
            clear hom htp hbl hmt2 hfz hst hgr h1 h3 hA e1 hce
            generalize rt.set j _ = rt2 at *
            generalize rs[i].2.2[j] = xx at *
            generalize rt[j].2.2[i] = xo at *
            generalize rs[i].2.1 = cr at *
            generalize rt[j].2.1 = cr2 at *
            go_wp2_with fail
            go_still_tail 13, (by kernel_rfl)
            go_wp2
            go_roundw
            case rel => exact ⟨j + 1, rt2, by go_num, by omega, TP2, OM2, BB⟩
            case measure => simp [intOf] <;> omega
          · have q1 : decide ((j : Int) < (n : Int)) = false := decide_eq_false (by omega)
            have TP2 := Lib.hid (htp.out.next (by omega))
            go_wp2
            go_roundw
            case rel => exact ⟨i + 1, rt, by go_num, by omega, TP2, hom, hbl⟩
            case measure => simp [intOf] <;> omega
      · have q1 : decide ((i : Int) < (n : Int)) = false := decide_eq_false (by omega)
        obtain ⟨hqt, heq⟩ := htp.out.fin (by omega) (by omega) HQ.out
        have hrl : rt.length = n := by have := htp.out.len; simpa [C.mt] using this
        obtain ⟨A9, c9, e9, hmt9⟩ := hom.out.mxB (by omega) hrl htp.out.row
        obtain ⟨rfl, rfl⟩ : At = A9 ∧ ct = c9 := by injection e9 with e1 _ e3; exact ⟨e1, e3⟩
        have hmr := HMX.out.below hbl.out (Nat.le_refl _)
        have hsz := hbl.out.size
        have S1 := Lib.hid (solve_sq n Am cm rs wr (hmr.more hsz) HQ.out HL.out)
        have BW := Lib.hid (B1.out.trans (hbl.out.mono h01))
        have HMT9 := Lib.hid hmt9
        have HQT := Lib.hid hqt
        have HEQ := Lib.hid heq
        have HRL := Lib.hid hrl
        have HMR := Lib.hid hmr
        clear htp hom hbl hqt heq e9 hmt9 hrl hmr HMT HRR
        go_wp2_with fail
        refine S1.out.mono ?_
        rintro e' w3 ⟨Aa, ca, N, rfl, b3, hra, hba⟩
        have S2 := Lib.hid (solve_sq n At ct rt w3 ((HMT9.out.below b3 (Nat.le_refl _)).more b3.size) HQT.out HRL.out)
        have hs3 := b3.size
        have BST := Lib.hid hba
        have RA := Lib.hid hra
        have B3 := Lib.hid b3
        clear S1 b3 hra hba
        go_wp2_with fail
        refine S2.out.mono ?_
        rintro e' w4 ⟨Ab, cb, N', rfl, b4, hrb, hbb⟩
        have B4 := Lib.hid (B3.out.trans (b4.mono hs3))
        have hs4 := b4.size
        have T1 := Lib.hid (total_sq n Am Aa cm ca rs N w4 ((HMR.out.below B4.out hsz).more (Nat.le_trans hsz B4.out.size)) HQ.out HL.out ((RA.out.below b4 (Nat.le_refl _)).more hs4) BST.out.pf)
        have MT4 := Lib.hid (HMT9.out.below B4.out (Nat.le_refl _))
        have BSB := Lib.hid hbb
        have RB := Lib.hid hrb
        clear S2 b4 hrb hbb
        have TE : Hid (A.tot n (C.cst (C.mt rt)) N' = A.tot n (C.cst (C.mt rs)) N) := Lib.hid (by
          have h1 := A.transpose_law BST.out (A.best_congr (c' := fun r j => C.cst (C.mt rs) j r) (fun r j a b c d => (HEQ.out r j a b c d).symm) BSB.out)
          rw [h1]
          refine A.sum_congr (fun r hr => ?_)
          have h2 := BSB.out.pf.rg r (A.mem_nums.1 hr).1 (A.mem_nums.1 hr).2
          exact HEQ.out r (N' r) (A.mem_nums.1 hr).1 (A.mem_nums.1 hr).2 h2.1 h2.2)
        have T2 := Lib.hid (fun w5 (b5 : Below w4.heap.size w4 w5) => total_sq n At Ab ct cb rt N' w5 ((MT4.out.below b5 B4.out.size).more (Nat.le_trans B4.out.size b5.size)) HQT.out HRL.out ((RB.out.below b5 (Nat.le_refl _)).more b5.size) BSB.out.pf)
        rw [TE.out] at T2
        have BX := Lib.hid (BW.out.trans (B4.out.mono BW.out.size))
        clear RA RB MT4 BSB BST HMR HMT9 HMX HEQ TE
        generalize A.tot n (C.cst (C.mt rs)) N = sm at *
        have hsm : (sm == sm) = true := beq_self_eq_true _
        go_wp2_with fail
        refine T1.out.mono ?_
        rintro e' w5 ⟨rfl, b5⟩
        have T3 := Lib.hid (T2.out w5 b5)
        have BY := Lib.hid (BX.out.trans (b5.mono BX.out.size))
        clear T1 T2 BX b5
        go_wp2_with fail
        refine T3.out.mono ?_
        rintro e' w6 ⟨rfl, b6⟩
        have BZ := Lib.hid (BY.out.trans (b6.mono BY.out.size))
        clear T3 BY b6
        go_wp2_with fail
        refine (awake_any _).mono ?_
        rintro e' w9 ⟨rfl, b9⟩
        go_wp2_with fail
        go_ret
        exact ⟨rfl, BZ.out.trans (b9.mono BZ.out.size)⟩
end Go.Proofs.Ytnekhlklflgodaa
