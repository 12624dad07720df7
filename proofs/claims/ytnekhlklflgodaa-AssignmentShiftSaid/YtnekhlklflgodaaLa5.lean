/-
  The statements of layer 29: AssignmentShift. By an AI agent.
-/
import Derived.Lib.SliceRun
import Derived.Laws.CopyOwn
import Derived.Test.YtnekhlklflgodaaSft
namespace Go.Proofs.Ytnekhlklflgodaa
open Go.RowKit

set_option maxRecDepth 100000 in
set_option maxHeartbeats 16000000 in
theorem shiftlaw_any (Al : Option Addr) (cl : Nat) (l : List Int) (s0 a0 b0 : Int) (w : World) (hr : Reads w w.heap.size 1 Al l.length (C.ns l)) (hy : l.length ≤ maxLen) (hs : 0 ≤ s0 ∧ s0 ≤ 255) (ha : 0 ≤ a0 ∧ a0 ≤ 255) (hb : 0 ≤ b0 ∧ b0 ≤ 255) :
    Calls Try.prog 5 #[.agg #[.slice Al l.length cl, .int .u8 s0, .int .u8 a0, .int .u8 b0]] w fun e w' => e = .returned (.bool true) ∧ Below w.heap.size w w' := by
  unfold maxLen at hy
  obtain ⟨s, rfl⟩ : ∃ s : Nat, s0 = s := ⟨s0.toNat, by omega⟩
  obtain ⟨a, rfl⟩ : ∃ a : Nat, a0 = a := ⟨a0.toNat, by omega⟩
  obtain ⟨b, rfl⟩ : ∃ b : Nat, b0 = b := ⟨b0.toNat, by omega⟩
  obtain ⟨n, hn⟩ : ∃ n : Nat, s % 9 = n := ⟨_, rfl⟩
  have hn12 : n < 9 := by omega
  have us : ((s : Int)) % 9 = (n : Int) := by omega
  have uc : IntKind.i64.wrap (s : Int) = (s : Int) := by simp [IntKind.wrap, IntKind.bits, IntKind.signed]; omega
  have ua : IntKind.i64.wrap (a : Int) = (a : Int) := by simp [IntKind.wrap, IntKind.bits, IntKind.signed]; omega
  have ub : IntKind.i64.wrap (b : Int) = (b : Int) := by simp [IntKind.wrap, IntKind.bits, IntKind.signed]; omega
  have HN := Lib.hid hn
  have B0 := Lib.hid ((Below.refl w.heap.size w).alloc (Nat.le_refl _) (.cells #[.slice Al l.length cl, .int .u8 s, .int .u8 a, .int .u8 b] 36))
  clear hn
  by_cases h150 : 150 < l.length
  · go_enter Try.func5, Try.ntmps5
    go_wp2_with fail
    go_quiet (fail)
    go_wp2_with fail
    refine (awake_any _).mono ?_
    rintro e' w9 ⟨rfl, b9⟩
    go_wp2_with fail
    go_ret
    have B0 := below_drewN B0.out nq
    exact ⟨rfl, B0.trans (b9.mono B0.size)⟩
  · have h150' : decide ((150 : Int) < (l.length : Int)) = false := decide_eq_false (by omega)
    have h150'' : decide (150 < l.length) = false := decide_eq_false h150
    by_cases hn0 : n = 0
    · subst hn0
      go_enter Try.func5, Try.ntmps5
      go_wp2_with fail
      go_quiet (fail)
      go_wp2_with fail
      refine (awake_any _).mono ?_
      rintro e' w9 ⟨rfl, b9⟩
      go_wp2_with fail
      go_ret
      have B0 := below_drewN B0.out nq
      exact ⟨rfl, B0.trans (b9.mono B0.size)⟩
    · have hn0' : ((n : Int) == 0) = false := beq_eq_false_iff_ne.2 (by omega)
      obtain ⟨k, hk⟩ : ∃ k : Nat, a % n = k := ⟨_, rfl⟩
      have hkn : k < n := by rw [← hk]; exact Nat.mod_lt _ (by omega)
      have uk : ((a : Int)) % (n : Int) = (k : Int) := by rw [← hk]; omega
      have HK := Lib.hid hk
      clear hk
      have MA := Lib.hid (fun (w' : World) (hb : Below w.heap.size w w') => matrix_any w.heap.size Al cl l n 1000 w' (hr.below hb (Nat.le_refl _)) hb.size (by omega) (by omega) (by omega))
      have HMB := Lib.hid (C.mtx_at2 l (mo := 1000) (by omega) n)
      have SQ := Lib.hid (C.mtx_sq l (mo := 1000) (by omega) (by omega) (n := n) (by omega))
      have SL := Lib.hid (C.mtx_len l 1000 n n)
      obtain ⟨M, hM⟩ : ∃ M, C.mtx l 1000 n n = M := ⟨_, rfl⟩
      unfold C.MatOut at MA
      rw [hM] at MA HMB SQ SL
      clear hr h150 hM
      go_enter Try.func5, Try.ntmps5
      go_wp2_with fail
      go_quiet (fail)
      go_wp2_with fail
      have BZ := Lib.hid (below_drewN B0.out nq)
      have MT := Lib.hid (MA.out _ BZ.out)
      refine MT.out.mono ?_
      rintro e' w1 ⟨v, rs, rfl, hom1, hmt1, b1⟩
      have B1 := Lib.hid (BZ.out.trans (b1.mono BZ.out.size))
      have hl1 : rs.length = n := by have := congrArg List.length hmt1; rw [SL.out] at this; simpa [C.mt] using this
      have hq1 : C.Sq (C.mt rs) := by rw [hmt1]; exact SQ.out
      have hrr1 : ∀ r ∈ C.mt rs, r.length = n := fun r hr => by rw [hq1.2.1 r hr]; simp [C.mt, hl1]
      obtain ⟨Am, cm, rfl, hmx⟩ := hom1.mxB (by omega) hl1 hrr1
      have HMX := Lib.hid hmx
      have HQ := Lib.hid hq1
      have HL := Lib.hid hl1
      have HMT := Lib.hid hmt1
      have h01 := B1.out.size
      clear MT BZ B0 hom1 hmx hq1 hl1 hmt1 hrr1 b1
      have MT := Lib.hid (MA.out w1 B1.out)
      go_wp2_with fail
      refine MT.out.mono ?_
      rintro e' w2 ⟨v2, ts, rfl, hom2, hmt2, b2⟩
      have hl2 : ts.length = n := by have := congrArg List.length hmt2; rw [SL.out] at this; simpa [C.mt] using this
      have hq2 : C.Sq (C.mt ts) := by rw [hmt2]; exact SQ.out
      have hrr2 : ∀ r ∈ C.mt ts, r.length = n := fun r hr => by rw [hq2.2.1 r hr]; simp [C.mt, hl2]
      obtain ⟨gR, cR, rfl⟩ := hom2.shape (by omega)
      rw [hl2] at hom2
      have B2 := Lib.hid (B1.out.trans (b2.mono B1.out.size))
      have h12 := b2.size
      have OM2 := Lib.hid hom2
      have LO2 := Lib.hid hom2.lo
      have SH2 : Hid (C.Sh n M (C.mt ts) (C.rowf k b 0)) := Lib.hid ⟨by simp [C.mt, hl2], hrr2, fun c d _ _ => by rw [hmt2]; simp [C.rowf]⟩
      have B12 := Lib.hid b2
      have HL2 := Lib.hid hl2
      rw [hl2]
      clear MT hom2 hq2 hl2 hmt2 hrr2 b2
      have MT := Lib.hid (MA.out w2 B2.out)
      go_wp2_with fail
      refine MT.out.mono ?_
      rintro e' w3 ⟨v3, us', rfl, hom3, hmt3, b3⟩
      have hl3 : us'.length = n := by have := congrArg List.length hmt3; rw [SL.out] at this; simpa [C.mt] using this
      have hq3 : C.Sq (C.mt us') := by rw [hmt3]; exact SQ.out
      have hrr3 : ∀ r ∈ C.mt us', r.length = n := fun r hr => by rw [hq3.2.1 r hr]; simp [C.mt, hl3]
      obtain ⟨gC, cC, rfl⟩ := hom3.shape (by omega)
      rw [hl3] at hom3
      have B13 := Lib.hid (B12.out.trans (b3.mono B12.out.size))
      have OM2 := Lib.hid (OM2.out.under b3)
      have OM3 := Lib.hid hom3
      have SH3 : Hid (C.Sh n M (C.mt us') (C.colf k b 0)) := Lib.hid ⟨by simp [C.mt, hl3], hrr3, fun c d _ _ => by rw [hmt3]; simp [C.colf]⟩
      have HL3 := Lib.hid hl3
      rw [hl3]
      clear MT MA hom3 hq3 hl3 hmt3 hrr3 b3 B12
      go_wp2_with fail
      go_loopw [50] (fun v50 wr => ∃ i : Nat, ∃ rt ct, v50 = .int .i64 i ∧ i ≤ n ∧ Hid (C.Sh n M (C.mt rt) (C.rowf k b i)) ∧ Hid (C.Om wr w1.heap.size (.slice (some ⟨gR, 0, none⟩) n cR) rt) ∧ Hid (C.Lo w2.heap.size (.slice (some ⟨gR, 0, none⟩) n cR) rt) ∧ Hid (C.Sh n M (C.mt ct) (C.colf k b i)) ∧ Hid (C.Om wr w2.heap.size (.slice (some ⟨gC, 0, none⟩) n cC) ct) ∧ Hid (Below w1.heap.size w1 wr)) (fun v50 _ => n - (intOf v50).toNat)
      case atStart => exact ⟨0, ts, us', rfl, by omega, SH2, OM2, LO2, SH3, OM3, B13⟩
      case round =>
        clear SH2 OM2 LO2 SH3 OM3 B13 HL2 HL3
        obtain ⟨i, rt, ct, rfl, hi, hsh2, hom2, hlo2, hsh3, hom3, hbl⟩ := hrel
        have hl2 : rt.length = n := by have := hsh2.out.len; simpa [C.mt] using this
        have hl3 : ct.length = n := by have := hsh3.out.len; simpa [C.mt] using this
        by_cases hlt : i < n
        · obtain ⟨ho1, ho2, ho⟩ := hom2.out.at_out hl2
          have hkr : k < rt.length := by omega
          have hic : i < ct.length := by omega
          obtain ⟨gk, e1, k1, k2, kfz, kce, kst⟩ := hom2.out.at_row hkr
          have k3 : gk < w2.heap.size := hlo2.out.1 _ (List.getElem_mem hkr) gk (by unfold C.slv; rw [e1]; rfl)
          have hlk : rt[k].2.2.length = n := hsh2.out.row _ (List.mem_map.2 ⟨rt[k], List.getElem_mem hkr, rfl⟩)
          have hli : ct[i].2.2.length = n := hsh3.out.row _ (List.mem_map.2 ⟨ct[i], List.getElem_mem hic, rfl⟩)
          have hik : i < rt[k].2.2.length := by omega
          have hki : k < ct[i].2.2.length := by omega
          have y0 := ho k hkr
          have x0 := kce i hik
          have fz0 := kfz i
          obtain ⟨po1, po2, po⟩ := hom3.out.at_out hl3
          obtain ⟨gj, e2, j1, j2, jfz, jce, -⟩ := hom3.out.at_row hic
          have y1 := po i hic
          have x1 := jce k hki
          have fz1 := jfz k
          have OA := hom3.out.otherLo (p := ⟨gk, i, none⟩) k3 (.int .i64 (rt[k].2.2[i] + b))
          obtain ⟨gj', e2', -, -, -, -, jst⟩ := OA.at_row hic
          obtain rfl : gj = gj' := by rw [e2] at e2'; injection e2' with e2'; injection e2'
          have OM3 := Lib.hid (jst k (ct[i].2.2[k] + b))
          have OM2 := Lib.hid ((kst i (rt[k].2.2[i] + b)).otherHi (hlo2.out.set hkr i (rt[k].2.2[i] + b)) (p := ⟨gj, k, none⟩) j1 (.int .i64 (ct[i].2.2[k] + b)))
          have LO2 := Lib.hid (hlo2.out.set hkr i (rt[k].2.2[i] + b))
          have SH2 := hsh2.out.step (g := C.rowf k b (i + 1)) hkn hlt (b : Int) (fun c d _ _ => C.rowf_step k b i c d)
          rw [C.at2_rs rt hkr hik, ← C.turn_mt hkr] at SH2
          have SH3 := hsh3.out.step (g := C.colf k b (i + 1)) hlt hkn (b : Int) (fun c d _ _ => C.colf_step k b i c d)
          rw [C.at2_rs ct hic hki, ← C.turn_mt hic] at SH3
          have SH2 := Lib.hid SH2
          have SH3 := Lib.hid SH3
          have BB := Lib.hid ((hbl.out.setCell (p := ⟨gk, i, none⟩) k1 (.int .i64 (rt[k].2.2[i] + b))).setCell (p := ⟨gj, k, none⟩) (Nat.le_trans h12 j1) (.int .i64 (ct[i].2.2[k] + b)))
          have g1 : 0 ≤ rt[k].2.2[i] ∧ rt[k].2.2[i] ≤ 1300 := by
            have h1 := hsh2.out.eq k i hkn hlt
            rw [C.at2_rs rt hkr hik] at h1
            have h2 := HMB.out k i hkn hlt
            unfold C.rowf at h1
            rw [if_neg (by omega)] at h1
            omega
          have g2 : 0 ≤ ct[i].2.2[k] ∧ ct[i].2.2[k] ≤ 1300 := by
            have h1 := hsh3.out.eq i k hlt hkn
            rw [C.at2_rs ct hic hki] at h1
            have h2 := HMB.out i k hlt hkn
            unfold C.colf at h1
            rw [if_neg (by omega)] at h1
            omega
          rw [e1, hlk] at y0
          rw [e2, hli] at y1
          have n1 : gk ≠ gj := by omega
          have n2 : gk ≠ gC := by omega
          have n3 : gj ≠ gk := by omega
          have n4 : gC ≠ gk := by omega
          have q1 : (0 : Int) ≤ (i : Int) := by omega
          have q2 : (i : Int) < (n : Int) := by omega
          have q3 : (0 : Int) ≤ (k : Int) := by omega
          have q4 : (k : Int) < (n : Int) := by omega
          clear hsh2 hom2 hlo2 hsh3 hom3 hbl ho kfz kce kst po jfz jce jst OA e1 e2 e2'
          generalize rt.set k _ = rt2 at *
          generalize ct.set i _ = ct2 at *
          generalize rt[k].2.2[i] = xr at *
          generalize ct[i].2.2[k] = xc at *
          generalize rt[k].2.1 = cr at *
          generalize ct[i].2.1 = cc at *
          have u1 : IntKind.i64.wrap (xr + b) = xr + b := by simp [IntKind.wrap, IntKind.bits, IntKind.signed]; omega
          have u2 : IntKind.i64.wrap (xc + b) = xc + b := by simp [IntKind.wrap, IntKind.bits, IntKind.signed]; omega
          go_wp2
          go_roundw
          case rel => exact ⟨i + 1, rt2, ct2, by go_num, by omega, SH2, OM2, LO2, SH3, OM3, BB⟩
          case measure => simp [intOf] <;> omega
        · have q1 : decide ((i : Int) < (n : Int)) = false := decide_eq_false (by omega)
          have hqr := hsh2.out.sq (by omega) HMB.out (fun c d _ _ => by unfold C.rowf; split <;> omega)
          have hqc := hsh3.out.sq (by omega) HMB.out (fun c d _ _ => by unfold C.colf; split <;> omega)
          obtain ⟨Ar, cr, er, hmr⟩ := hom2.out.mxB (by omega) hl2 hsh2.out.row
          obtain ⟨rfl, rfl⟩ : Ar = some ⟨gR, 0, none⟩ ∧ cr = cR := by injection er with e1 _ e3; exact ⟨e1.symm, e3.symm⟩
          obtain ⟨Ac, cc, ec, hmc⟩ := hom3.out.mxB (by omega) hl3 hsh3.out.row
          obtain ⟨rfl, rfl⟩ : Ac = some ⟨gC, 0, none⟩ ∧ cc = cC := by injection ec with e1 _ e3; exact ⟨e1.symm, e3.symm⟩
          have hmr := Lib.hid hmr
          have hmc := Lib.hid hmc
          have HQR := Lib.hid hqr
          have HQC := Lib.hid hqc
          have HL2 := Lib.hid hl2
          have HL3 := Lib.hid hl3
          have S1 := Lib.hid (solve_sq n Am cm rs wr ((HMX.out.below hbl.out (Nat.le_refl _)).more hbl.out.size) HQ.out HL.out)
          have BW := Lib.hid (B1.out.trans (hbl.out.mono B1.out.size))
          clear hom2 hlo2 hom3 hbl hqr hqc er ec hl2 hl3 HMB B2 h12 SL SQ
          go_wp2_with fail
          refine S1.out.mono ?_
          rintro e' w4 ⟨Aa, ca, N, rfl, b4, hra, hba⟩
          have BSA := Lib.hid hba
          have RA := Lib.hid hra
          have S2 := Lib.hid (solve_sq n _ cr rt w4 ((hmr.out.below b4 (Nat.le_refl _)).more b4.size) HQR.out HL2.out)
          have B4 := Lib.hid b4
          clear S1 b4 hra hba hmr
          go_wp2_with fail
          refine S2.out.mono ?_
          rintro e' w5 ⟨Ab, cb, N2, rfl, b5, hrb, hbb⟩
          have BSB := Lib.hid hbb
          have RB := Lib.hid hrb
          have RA := Lib.hid ((RA.out.below b5 (Nat.le_refl _)).more b5.size)
          have B5 := Lib.hid (B4.out.trans (b5.mono B4.out.size))
          have S3 := Lib.hid (solve_sq n _ cc ct w5 ((hmc.out.below B5.out (Nat.le_refl _)).more B5.out.size) HQC.out HL3.out)
          clear S2 b5 hrb hbb hmc B4
          go_wp2_with fail
          refine S3.out.mono ?_
          rintro e' w6 ⟨Ac, cd, N3, rfl, b6, hrc, hbc⟩
          have RC := Lib.hid hrc
          have RA := Lib.hid ((RA.out.below b6 (Nat.le_refl _)).more b6.size)
          have RB := Lib.hid ((RB.out.below b6 (Nat.le_refl _)).more b6.size)
          have B6 := Lib.hid (BW.out.trans ((B5.out.trans (b6.mono B5.out.size)).mono BW.out.size))
          have E1 : Hid (C.asg n N2 = C.asg n N) := Lib.hid (C.row_best hsh2.out (by omega) hkn (by have := BSA.out; rw [HMT.out] at this; exact this) BSB.out)
          have E2 : Hid (C.asg n N3 = C.asg n N) := Lib.hid (C.col_best hsh3.out (by omega) hkn (by have := BSA.out; rw [HMT.out] at this; exact this) hbc)
          have SM1 := Lib.hid (same_asg w6.heap.size Aa Ab ca cb n N N2 (by omega) E1.out w6 RA.out RB.out)
          have SM2 := Lib.hid (fun m => same_asg w6.heap.size Aa Ac ca cd n N N3 (by omega) E2.out (w6.drewN m) (RA.out.drewN m) (RC.out.drewN m))
          clear S3 b6 hrc hbc RA RB RC BSA BSB B5 BW hsh2 hsh3 E1 E2
          go_wp2_with fail
          refine SM1.out.mono ?_
          rintro e' _ ⟨rfl, m1, rfl⟩
          go_wp2_with fail
          refine (SM2.out m1).mono ?_
          rintro e' _ ⟨rfl, m2, rfl⟩
          go_wp2_with fail
          refine (awake_any _).mono ?_
          rintro e' w9 ⟨rfl, b9⟩
          go_wp2_with fail
          go_ret
          have B7 := below_drewN B6.out (m1 + m2)
          exact ⟨rfl, B7.trans (b9.mono B7.size)⟩
end Go.Proofs.Ytnekhlklflgodaa
