/-
  The walks of layer 29: the reference's Solve. By an AI agent.
-/
import Derived.Test.YtoemhphgnpedmaaRsp
namespace Go.Proofs.Ytoemhphgnpedmaa
open Go.RowKit

/-- What the reference's Solve returns of a table. -/
def C.RSolOut (n : Nat) (c : Nat → Nat → Int) (w w' : World) (e : Ending) : Prop := ∃ A1 c1 R, e = .returned (.tuple #[.slice A1 n c1, .int .i64 0]) ∧ Reads w' w'.heap.size 1 A1 n (C.ns (C.asg n R)) ∧ A.Picks n c R n ∧ Below w.heap.size w w'

set_option maxRecDepth 100000 in
set_option maxHeartbeats 16000000 in
theorem refsolve_any (Am : Option Addr) (cp : Nat) (n : Nat) (rs : List (Option Addr × Nat × List Int)) (w : World) (h : C.Mx w w.heap.size Am rs) (hq : C.Sq (C.mt rs)) (hl : rs.length = n) (hn6 : n ≤ 7) :
    Calls Try.prog 37 #[.slice Am n cp] w fun e w' => C.RSolOut n (C.cst (C.mt rs)) w w' e := by
  have CK := refcheck_any w.heap.size Am cp rs w h
  rw [C.chk_of_sq hq, hl] at CK
  have CK := Lib.hid CK
  have HM := Lib.hid h
  have HL := Lib.hid hl
  have hlm : (C.mt rs).length = n := by simp [C.mt, hl]
  have HRL : Hid (∀ i (hi : i < rs.length), rs[i].2.2.length = n) := Lib.hid (fun i hi => by rw [← hlm]; exact hq.2.1 _ (List.mem_map.2 ⟨rs[i], List.getElem_mem hi, rfl⟩))
  have HC0 : Hid (∀ r j, 0 ≤ C.cst (C.mt rs) r j ∧ C.cst (C.mt rs) r j ≤ 1000000) := Lib.hid (fun r j => C.at2_range hq (r - 1) (j - 1))
  have HCE : Hid (∀ i j (hi : i < rs.length) (hj : j < rs[i].2.2.length), C.cst (C.mt rs) (i + 1) (j + 1) = rs[i].2.2[j]) := Lib.hid (fun i j hi hj => C.cst_at rs hi hj)
  obtain ⟨c, hc⟩ : ∃ c, C.cst (C.mt rs) = c := ⟨_, rfl⟩
  rw [hc] at HC0 HCE ⊢
  have HB0 := Lib.hid (A.bst_nonneg (n := n) (c := c))
  have HB1 := Lib.hid (A.bst_hi (n := n) (c := c) (fun r j => (HC0.out r j).2))
  obtain ⟨j0, hj, hj0, hj1, hj2⟩ := info_parts infoRowI
  obtain ⟨i0, hi, hz0, hz1, hz2⟩ := info_parts infoInt
  have t12 : decide ((12 : Int) < (n : Int)) = false := decide_eq_false (by omega)
  clear h hq hl hlm hc
  go_enter Try.func37, Try.ntmps37
  go_wp2_with fail
  refine CK.out.mono ?_
  rintro e' w1 ⟨rfl, rfl⟩
  clear CK
  go_wp2_with fail
  go_loopw [6, 7] (fun v6 v7 wr => ∃ i sz : Nat, v7 = .int .i64 i ∧ i ≤ n ∧ v6 = .int .i64 sz ∧ Hid (sz = 2 ^ i) ∧ w = wr) (fun _ v7 _ => n - (intOf v7).toNat)
  case atStart => exact ⟨0, 1, rfl, by omega, rfl, Lib.hid rfl, rfl⟩
  case round =>
    obtain ⟨i, sz, rfl, hi1, rfl, hsz, rfl⟩ := hrel
    by_cases hlt : i < n
    · have hp : sz ≤ 128 := by have := Nat.pow_le_pow_right (show 0 < 2 by decide) (show i ≤ 7 by omega); rw [hsz.out]; simpa using this
      have HS2 : Hid (2 * sz = 2 ^ (i + 1)) := Lib.hid (by rw [hsz.out, Nat.pow_succ]; omega)
      have u1 : IntKind.i64.wrap (2 * (sz : Int)) = ((2 * sz : Nat) : Int) := by simp [IntKind.wrap, IntKind.bits, IntKind.signed]; omega
      go_wp2
      go_roundw
      case rel => exact ⟨i + 1, 2 * sz, by go_num, by omega, by go_num, HS2, by first | rfl | trivial⟩
      case measure => simp [intOf] <;> omega
    · have q1 : decide ((i : Int) < (n : Int)) = false := decide_eq_false (by omega)
      have hin : i = n := by omega
      rw [hin] at hsz
      have hs1 : 1 ≤ sz := by rw [hsz.out]; exact Nat.one_le_two_pow
      have hs64 : sz ≤ 128 := by have := Nat.pow_le_pow_right (show 0 < 2 by decide) hn6; rw [hsz.out]; simpa using this
      clear hin
      have un : IntKind.i64.wrap ((n : Int) + 1) = ((n + 1 : Nat) : Int) := by simp [IntKind.wrap, IntKind.bits, IntKind.signed]; omega
      go_wp2_with (first | (refine wpList_make_full _ rfl (.tmp 39) (.tmp 39) 45 rfl w.heap.size 32 j0 (.slice none 0 0) 1 Try.underlying45 hj hj0 hj1 .i64 .i64 _ _ (n + 1) rfl rfl rfl rfl (by rw [hj2]; omega) (by unfold maxLen; omega) (Nat.le_refl _) ?_; intro w2 hown2 hg2; obtain ⟨gO, hgO⟩ : ∃ gO, w.heap.size = gO := ⟨_, rfl⟩; have BT0 : C.Bt w2 gO gO n sz (fun _ => 0) (fun _ _ => 0) (n + 1) := ⟨⟨_, by rw [← hgO]; exact hown2, fun r a b => by omega⟩, fun r a b => by omega, fun r a b => by omega, fun r r' a b _ _ _ => by omega⟩; (have b2 : Below gO w w2 := by rw [← hgO]; exact (Below.refl _ w).grown hg2 (Nat.le_refl _) (fun k hk => by cases hk)); (have HM : Hid (C.Mx w gO Am rs) := by rw [← hgO]; exact HM); have hgo1 : w.heap.size ≤ gO := Nat.le_of_eq hgO; have hgo2 : gO ≤ w.heap.size := Nat.le_of_eq hgO.symm; have h2s : gO ≤ w2.heap.size := Nat.le_trans hgo2 (by have := hg2.size; exact this); have BT0 := Lib.hid BT0; have B2 := Lib.hid b2; rw [hgO]; clear hown2 hg2 hgO b2 q1) | (refine wpList_make_full _ rfl (.tmp 43) (.tmp 43) 32 rfl w2.heap.size 3 i0 (.int .i64 0) 1 Try.underlying32 hi hz0 hz1 .i64 .i64 _ _ sz rfl rfl rfl rfl (by rw [hz2]; omega) (by unfold maxLen; omega) (Nat.le_refl _) ?_; intro w3 hown3 hg3; rw [show (madeCells (Value.int .i64 0).cells (sz * 1)).toList = C.ns ((List.range sz).map fun _ => (0 : Int)) from C.zeros sz] at hown3; have b3 : Below w2.heap.size w2 w3 := (Below.refl _ w2).grown hg3 (Nat.le_refl _) (fun k hk => by cases hk); have BU := BT0.out.under b3; obtain ⟨xo, xoc⟩ := BU.cell_out (r := n) (Nat.le_refl _); have xof := BU.fz_out n; have BT1 := Lib.hid (BT0.out.grow (Nat.le_refl _) h2s hown3 b3); have BB1 : Hid (Below gO w (w3.setCell ⟨gO, n, none⟩ (.slice (some ⟨w2.heap.size, 0, none⟩) sz sz))) := Lib.hid ((B2.out.trans (b3.mono h2s)).setCell (Nat.le_refl _) _); clear hown3 hg3 b3 BU))
      generalize w3.setCell _ _ = w4 at *
      clear xoc xof
      generalize A.upd (fun _ => 0) n w2.heap.size = G1 at *
      have HL1 : Hid (∀ r s, n ≤ r → r ≤ n → s < sz → (fun r s => if r = n then (0 : Int) else (fun _ _ => 0) r s) r s = A.bst n c (n - r) s) := Lib.hid (fun r s a b _ => by
        rw [show n - r = 0 by omega]
        simp [A.bst])
      obtain ⟨L1, hL1⟩ : ∃ L1, (fun r s => if r = n then (0 : Int) else (fun _ _ => 0) r s) = L1 := ⟨_, rfl⟩
      rw [hL1] at HL1 BT1
      clear hL1 BT0 B2 h2s
      go_wp2_with fail
      go_loopw [9] (fun v9 wr => ∃ (lo : Nat) (G : Nat → Nat) (L : Nat → Nat → Int), v9 = .int .i64 ((lo : Int) - 1) ∧ lo ≤ n ∧ Hid (C.Bt wr gO gO n sz G L lo) ∧ Hid (∀ r s, lo ≤ r → r ≤ n → s < sz → L r s = A.bst n c (n - r) s) ∧ Hid (Below gO w wr)) (fun v9 _ => (intOf v9 + 1).toNat)
      case atStart => exact ⟨n, G1, L1, rfl, Nat.le_refl _, BT1, HL1, BB1⟩
      case round =>
        clear BT1 HL1 BB1
        obtain ⟨lo, G, L, rfl, hlo, hbt, hL, hbl⟩ := hrel
        rcases Nat.eq_zero_or_pos lo with h0 | hpos
        · subst h0
          rw [show ((0 : Nat) : Int) - 1 = -1 from rfl]
          obtain ⟨wt, hwt⟩ : ∃ wt : World, wt = wr := ⟨_, rfl⟩
          rw [← hwt] at hbt hbl ⊢
          have own0 : Hid ((wt.alloc (.cells #[] 3)).ownsRow wt.heap.size 3 1 (.slice (some ⟨wt.heap.size, 0, none⟩) 0 0) 0 (C.ns (C.asg 0 id))) := Lib.hid (World.ownsRow_lit (base := wt.heap.size) (e := 3) (size := 1) wt #[] 0 (Nat.le_refl _) (by decide) rfl)
          have BB0 : Hid (Below wt.heap.size wt (wt.alloc (.cells #[] 3))) := Lib.hid ((Below.refl _ wt).alloc (Nat.le_refl _) _)
          have PK0 : Hid (A.Picks n c id 0) := Lib.hid (fun i h => absurd h (by omega))
          have hgt : gO ≤ wt.heap.size := by have := hbt.out.lt.2; omega
          have BTT := hbt
          have LTT := hL
          have BLT := hbl
          clear hbt hL hbl hwt
          go_wp2_with fail
          go_loopw [15, 16, 17] (fun v15 v16 v17 wr => ∃ (k mk : Nat) (R : Nat → Nat), v17 = .int .i64 k ∧ k ≤ n ∧ Hid (A.Picks n c R k) ∧ v16 = .int .i64 mk ∧ Hid (mk = A.mask R k) ∧ Hid (wr.ownsRow wt.heap.size 3 1 v15 k (C.ns (C.asg k R))) ∧ Hid (Below wt.heap.size wt wr)) (fun _ _ v17 _ => n - (intOf v17).toNat)
          case atStart => exact ⟨0, 0, id, rfl, by omega, PK0, rfl, Lib.hid rfl, own0, BB0⟩
          case round =>
            clear own0 BB0 PK0
            obtain ⟨k, mk, R, rfl, hk, hpk, rfl, hmk, hown, hbl⟩ := hrel
            have hm2 : mk < 2 ^ n := by
              rw [hmk.out]
              exact A.mask_lt fun r h1 h2 => by
                have := hpk.out (r - 1) (by omega)
                rw [show r - 1 + 1 = r by omega] at this
                exact ⟨this.1, this.2.1⟩
            by_cases hkt : k < n
            · have t0 : decide ((k : Int) < (n : Int)) = true := decide_eq_true (by omega)
              have hmsz : mk < sz := by rw [hsz.out]; exact hm2
              go_wp2_with fail
              go_loopw [15, 16, 18, 19] (fun v15 v16 v18 v19 wd => ∃ j bt m : Nat, v19 = .int .i64 j ∧ j ≤ n ∧ v18 = .int .i64 bt ∧ Hid (bt = 2 ^ j) ∧ v16 = .int .i64 mk ∧ Hid (wr.ownsRow wt.heap.size 3 1 v15 k (C.ns (C.asg k R))) ∧ Hid (∀ j', j' < j → mk.testBit j' = false → c (k + 1) (j' + 1) + A.bst n c (n - (k + 1)) (mk ||| 2 ^ j') ≠ A.bst n c (n - k) mk) ∧ wd = wr.drewN m) (fun _ _ _ v19 _ => n - (intOf v19).toNat)
              case atStart => exact ⟨0, 1, 0, rfl, by omega, rfl, Lib.hid rfl, rfl, hown, Lib.hid (fun j h => absurd h (by omega)), rfl⟩
              case round =>
                clear hown
                obtain ⟨j, bt, m, rfl, hj9, rfl, hbt2, rfl, hown, hno, rfl⟩ := hrel
                by_cases hjt : j < n
                · have hb64 : bt < 128 := by rw [hbt2.out]; have := Nat.pow_le_pow_right (show 0 < 2 by decide) (show j ≤ 6 by omega); omega
                  have HA := bits_and64 mk (by omega) bt hb64
                  have HO := bits_or64 mk (by omega) bt hb64
                  have HZ := and_pow64 mk (by omega) j (by omega)
                  have HS2 : Hid (2 * bt = 2 ^ (j + 1)) := Lib.hid (by rw [hbt2.out, Nat.pow_succ]; omega)
                  have u1 : IntKind.i64.wrap (2 * (bt : Int)) = ((2 * bt : Nat) : Int) := by simp [IntKind.wrap, IntKind.bits, IntKind.signed]; omega
                  have t3 : decide ((j : Int) < (n : Int)) = true := decide_eq_true (by omega)
                  rw [← hbt2.out] at HZ
                  by_cases hfr : mk.testBit j = true
                  · rw [hfr] at HZ
                    have hne : (((mk &&& bt : Nat) : Int) == 0) = false := by
                      rw [beq_eq_false_iff_ne]
                      intro e
                      have : (mk &&& bt) = 0 := by omega
                      rw [this] at HZ
                      cases HZ
                    have NO2 : Hid (∀ j', j' < j + 1 → mk.testBit j' = false → c (k + 1) (j' + 1) + A.bst n c (n - (k + 1)) (mk ||| 2 ^ j') ≠ A.bst n c (n - k) mk) := Lib.hid (fun j' h1 h2 => by
                      by_cases e : j' = j
                      · rw [e, hfr] at h2; cases h2
                      · exact hno.out j' (by omega) h2)
                    obtain ⟨ab, hab⟩ : ∃ ab : Nat, (mk &&& bt) = ab := ⟨_, rfl⟩
                    rw [hab] at HA hne
                    clear HO HZ hab hfr hno
                    go_wp2_with fail
                    go_quiet (fail)
                    go_wp2
                    go_roundw
                    case rel => exact ⟨j + 1, 2 * bt, m + nq, by go_num, by omega, by go_num, HS2, rfl, hown, NO2, by simp⟩
                    case measure => simp [intOf] <;> omega
                  · have hfr : mk.testBit j = false := by simpa using hfr
                    rw [hfr] at HZ
                    have h0 : (mk &&& bt) = 0 := by simpa using HZ
                    rw [h0] at HA
                    have hso : (mk ||| bt) < sz := by rw [hsz.out]; rw [hbt2.out]; exact Nat.or_lt_two_pow hm2 (Nat.pow_lt_pow_right (by decide) hjt)
                    obtain ⟨so, hso'⟩ : ∃ so : Nat, (mk ||| bt) = so := ⟨_, rfl⟩
                    have HSO : Hid ((mk ||| 2 ^ j) = so) := Lib.hid (by rw [← hso', hbt2.out])
                    rw [hso'] at HO hso
                    have hbtw := BTT.out.under hbl.out
                    have p0 := hbtw.at_out (r := k + 1) (by omega) (by omega)
                    have p1 := hbtw.at_row (r := k + 1) (by omega) (by omega) hso
                    rw [LTT.out (k + 1) so (by omega) (by omega) hso] at p1
                    have p2 := hbtw.at_out (r := k) (by omega) (by omega)
                    have p3 := hbtw.at_row (r := k) (by omega) (by omega) hmsz
                    rw [LTT.out k mk (by omega) (by omega) hmsz] at p3
                    have hir : k < rs.length := by rw [HL.out]; exact hkt
                    have hjr : j < rs[k].2.2.length := by rw [HRL.out k hir]; exact hjt
                    have hce := HCE.out k j hir hjr
                    have BWW := BLT.out.trans (hbl.out.mono hgt)
                    obtain ⟨b1, o1, rfl, hb1, h1⟩ := HM.out.at_ (by omega)
                    have y0 := (BWW.cell (p := ⟨b1, o1 + k, none⟩) hb1).trans (h1 k hir)
                    obtain ⟨b3, o3, hA3, hb3, h3⟩ := C.nums_at (HM.out.each rs[k] (List.getElem_mem hir)).1 (by omega)
                    have z0 := (BWW.cell (p := ⟨b3, o3 + j, none⟩) hb3).trans (h3 j hjr)
                    rw [hA3, HRL.out k hir] at y0
                    rw [← hce] at z0
                    have hcr := HC0.out (k + 1) (j + 1)
                    have hb0 := HB0.out (n - (k + 1)) so
                    have hb1' := HB1.out (n - (k + 1)) so
                    have hnn : ((n - (k + 1) : Nat) : Int) ≤ 7 := by omega
                    have q3 : (0 : Int) ≤ (j : Int) := by omega
                    have q4 : (j : Int) < (n : Int) := by omega
                    have q5 : (0 : Int) ≤ (k : Int) := by omega
                    have q6 : (k : Int) < (n : Int) := by omega
                    have q7 : (0 : Int) ≤ (so : Int) := by omega
                    have q8 : (so : Int) < (sz : Int) := by omega
                    have q9 : (0 : Int) ≤ (mk : Int) := by omega
                    have q10 : (mk : Int) < (sz : Int) := by omega
                    have q11 : (k : Int) < ((n + 1 : Nat) : Int) := by omega
                    have q12 : (k : Int) < (n : Int) + 1 := by omega
                    have u5 : IntKind.i64.wrap ((k : Int) + 1) = ((k + 1 : Nat) : Int) := by simp [IntKind.wrap, IntKind.bits, IntKind.signed]; omega
                    clear HZ h0 hso' h1 h3 hA3 hce hbtw BWW
                    obtain ⟨bo, hbo⟩ : ∃ bo, A.bst n c (n - (k + 1)) so = bo := ⟨_, rfl⟩
                    obtain ⟨bk, hbk⟩ : ∃ bk, A.bst n c (n - k) mk = bk := ⟨_, rfl⟩
                    obtain ⟨cij, hcij⟩ : ∃ cij, c (k + 1) (j + 1) = cij := ⟨_, rfl⟩
                    rw [hbo] at p1 hb0 hb1'
                    rw [hbk] at p3
                    rw [hcij] at z0 hcr
                    have HBO := Lib.hid hbo
                    have HBK := Lib.hid hbk
                    have HCIJ := Lib.hid hcij
                    generalize rs[k].2.1 = crr at *
                    generalize G (k + 1) = gn at *
                    generalize G k = gk at *
                    have u3 : IntKind.i64.wrap (cij + bo) = cij + bo := by simp [IntKind.wrap, IntKind.bits, IntKind.signed]; omega
                    clear hbo hbk hcij
                    by_cases ce : cij + bo = bk
                    · have t4 : (cij + bo == bk) = true := beq_iff_eq.2 ce
                      have PK2 : Hid (A.Picks n c (A.upd R (k + 1) (j + 1)) (k + 1)) := Lib.hid (A.picks_step hpk.out hjt (by rw [← hmk.out]; exact hfr) (by rw [← hmk.out, HCIJ.out, HSO.out, HBO.out, HBK.out]; exact ce) (fun j' h1 h2 => by rw [← hmk.out] at h2 ⊢; exact hno.out j' h1 h2))
                      have MK2 : Hid (so = A.mask (A.upd R (k + 1) (j + 1)) (k + 1)) := Lib.hid (by rw [A.mask_next, ← hmk.out, HSO.out])
                      have hszw := hbl.out.size
                      clear ce hno hfr HBO HBK HCIJ HSO
                      go_wp2_with fail
                      go_quiet (fail)
                      have own1 := (show (wr.drewN (m + nq)).ownsRow wt.heap.size 3 1 u15 k (C.ns (C.asg k R)) from hown.out).alloc (.cells #[.int .i64 j] 3)
                      go_wp2_with (at_builtin; refine wpList_append_any _ rfl (.tmp 151) (.tmp 153) 32 rfl wt.heap.size 3 i0 _ 1 8 Try.underlying32 hi hz0 hz1 hz2 rfl (by decide) u15 _ _ rfl own1 _ _ 1 1 [.int .i64 j] rfl (reads_new _ [.int .i64 j] 3) (by simp [Value.oneCell']) (by simp only [maxLen]; omega) (by omega) (by simp; omega) ?_; intro v' W2 hown' hgrow hnew)
                      have OW2 : Hid (W2.ownsRow wt.heap.size 3 1 v' (k + 1) (C.ns (C.asg (k + 1) (A.upd R (k + 1) (j + 1))))) := Lib.hid (by
                        rw [C.asg_succ, A.upd_same, C.asg_congr (N' := R) (fun r h1 h2 => A.upd_ne _ _ (by omega))]
                        simp only [C.ns, List.map_append, List.map_cons, List.map_nil]
                        rw [show (((j + 1 : Nat) : Int) - 1) = (j : Int) by omega]
                        exact hown')
                      have BBX : Hid (Below wt.heap.size wt W2) := Lib.hid (((below_drewN hbl.out (m + nq)).alloc hszw _).grown hgrow (by simp; omega) (fun b e => (hown.out.lt b e).1))
                      clear hown' hgrow hnew own1 hown hbl
                      go_wp2
                      go_roundw
                      case rel => exact ⟨k + 1, so, A.upd R (k + 1) (j + 1), by go_num, by omega, PK2, by first | rfl | go_num, MK2, OW2, BBX⟩
                      case measure => simp [intOf] <;> omega
                    · have t4 : (cij + bo == bk) = false := beq_eq_false_iff_ne.2 ce
                      have NO2 : Hid (∀ j', j' < j + 1 → mk.testBit j' = false → c (k + 1) (j' + 1) + A.bst n c (n - (k + 1)) (mk ||| 2 ^ j') ≠ A.bst n c (n - k) mk) := Lib.hid (fun j' h1 h2 => by
                        by_cases e : j' = j
                        · rw [e, HCIJ.out, HSO.out, HBO.out, HBK.out]; exact ce
                        · exact hno.out j' (by omega) h2)
                      clear ce hno hfr HBO HBK HCIJ HSO
                      go_wp2_with fail
                      go_quiet (fail)
                      go_wp2
                      go_roundw
                      case rel => exact ⟨j + 1, 2 * bt, m + nq, by go_num, by omega, by go_num, HS2, rfl, hown, NO2, by simp⟩
                      case measure => simp [intOf] <;> omega
                · exfalso
                  obtain ⟨j', h1, h2, h3, h4⟩ := A.picks_next (fun r j _ _ _ _ => (HC0.out r j).1) hpk.out hkt
                  rw [← hmk.out] at h3 h4
                  refine hno.out (j' - 1) (by omega) h3 ?_
                  rw [show j' - 1 + 1 = j' by omega]
                  exact h4
            · have t0 : decide ((k : Int) < (n : Int)) = false := decide_eq_false (by omega)
              have hkn : k = n := by omega
              rw [hkn] at hpk hown
              obtain ⟨A1, c1, hv, hrd⟩ := own_reads hown.out
              subst hv
              have RD := Lib.hid hrd
              have BW := Lib.hid (BLT.out.trans (hbl.out.mono hgt))
              clear hrd hown hbl BTT LTT BLT hkn
              go_wp2_with fail
              go_ret2
              exact ⟨A1, c1, R, rfl, RD.out, hpk.out, (BW.out.mono hgo1)⟩
        · obtain ⟨i, rfl⟩ : ∃ i, lo = i + 1 := ⟨lo - 1, by omega⟩
          have hin : i < n := by omega
          rw [show ((i + 1 : Nat) : Int) - 1 = (i : Int) by omega]
          have q2 : decide ((0 : Int) ≤ (i : Int)) = true := decide_eq_true (by omega)
          have hqs : gO ≤ wr.heap.size := by have := hbt.out.lt.2; omega
          go_wp2_with (refine wpList_make_full _ rfl (.tmp 54) (.tmp 54) 32 rfl wr.heap.size 3 i0 (.int .i64 0) 1 Try.underlying32 hi hz0 hz1 .i64 .i64 _ _ sz rfl rfl rfl rfl (by rw [hz2]; omega) (by unfold maxLen; omega) (Nat.le_refl _) ?_; intro w3 hown3 hg3; rw [show (madeCells (Value.int .i64 0).cells (sz * 1)).toList = C.ns ((List.range sz).map fun _ => (0 : Int)) from C.zeros sz] at hown3; have b3 : Below wr.heap.size wr w3 := (Below.refl _ wr).grown hg3 (Nat.le_refl _) (fun k hk => by cases hk); have BU := hbt.out.under b3; obtain ⟨xo, xoc⟩ := BU.cell_out (r := i) (by omega); have xof := BU.fz_out i; have BT1 := Lib.hid (hbt.out.grow (by omega) hqs hown3 b3); have BB1 : Hid (Below gO w (w3.setCell ⟨gO, i, none⟩ (.slice (some ⟨wr.heap.size, 0, none⟩) sz sz))) := Lib.hid ((hbl.out.trans (b3.mono hqs)).setCell (Nat.le_refl _) _); clear hown3 hg3 b3 BU)
          generalize w3.setCell _ _ = w4 at *
          clear xoc xof
          generalize A.upd G i wr.heap.size = G1 at *
          have HL1 : Hid (∀ r s, i < r → r ≤ n → s < sz → (fun r s => if r = i then (0 : Int) else L r s) r s = A.bst n c (n - r) s) := Lib.hid (fun r s a b hs => by
            show (if r = i then (0 : Int) else L r s) = _
            rw [if_neg (by omega)]
            exact hL.out r s (by omega) b hs)
          obtain ⟨L1, hL1⟩ : ∃ L1, (fun r s => if r = i then (0 : Int) else L r s) = L1 := ⟨_, rfl⟩
          rw [hL1] at HL1 BT1
          clear hL1 hbt hL hbl hqs
          go_wp2_with fail
          go_loopw [10] (fun v10 wr => ∃ (set : Nat) (L : Nat → Nat → Int), v10 = .int .i64 set ∧ set ≤ sz ∧ Hid (C.Bt wr gO gO n sz G1 L i) ∧ Hid (∀ r s, i < r → r ≤ n → s < sz → L r s = A.bst n c (n - r) s) ∧ Hid (∀ s, s < set → L i s = A.bst n c (n - i) s) ∧ Hid (Below gO w wr)) (fun v10 _ => sz - (intOf v10).toNat)
          case atStart => exact ⟨0, L1, rfl, by omega, BT1, HL1, Lib.hid (fun s h => absurd h (by omega)), BB1⟩
          case round =>
            clear BT1 HL1 BB1
            obtain ⟨set, L, rfl, hset, hbt, hL, hLi, hbl⟩ := hrel
            by_cases hst : set < sz
            · obtain ⟨f, hf⟩ : ∃ f, (fun j => c (i + 1) (j + 1) + A.bst n c (n - (i + 1)) (set ||| 2 ^ j)) = f := ⟨_, rfl⟩
              obtain ⟨fre, hfre⟩ : ∃ fre, (fun j => !set.testBit j) = fre := ⟨_, rfl⟩
              have FV : Hid (∀ j, f j = c (i + 1) (j + 1) + A.bst n c (n - (i + 1)) (set ||| 2 ^ j)) := Lib.hid (fun j => by rw [← hf])
              have RV : Hid (∀ j, fre j = !set.testBit j) := Lib.hid (fun j => by rw [← hfre])
              have BS : Hid (A.bst n c (n - i) set = if A.scanB f fre n < 0 then 0 else A.scanB f fre n) := Lib.hid (by rw [A.bst_step hin, hf, hfre])
              clear hf hfre
              have t0 : decide ((set : Int) < (sz : Int)) = true := decide_eq_true (by omega)
              go_wp2_with fail
              go_loopw [11, 12, 13] (fun v11 v12 v13 wd => ∃ j bt m : Nat, v13 = .int .i64 j ∧ j ≤ n ∧ v12 = .int .i64 bt ∧ Hid (bt = 2 ^ j) ∧ v11 = .int .i64 (A.scanB f fre j) ∧ wd = wr.drewN m) (fun _ _ v13 _ => n - (intOf v13).toNat)
              case atStart => exact ⟨0, 1, 0, rfl, by omega, rfl, Lib.hid rfl, rfl, rfl⟩
              case round =>
                obtain ⟨j, bt, m, rfl, hj9, rfl, hbt2, rfl, rfl⟩ := hrel
                by_cases hjt : j < n
                · have hb64 : bt < 128 := by rw [hbt2.out]; have := Nat.pow_le_pow_right (show 0 < 2 by decide) (show j ≤ 6 by omega); omega
                  have HA := bits_and64 set (by omega) bt hb64
                  have HO := bits_or64 set (by omega) bt hb64
                  have HZ := and_pow64 set (by omega) j (by omega)
                  have HS2 : Hid (2 * bt = 2 ^ (j + 1)) := Lib.hid (by rw [hbt2.out, Nat.pow_succ]; omega)
                  have u1 : IntKind.i64.wrap (2 * (bt : Int)) = ((2 * bt : Nat) : Int) := by simp [IntKind.wrap, IntKind.bits, IntKind.signed]; omega
                  have t3 : decide ((j : Int) < (n : Int)) = true := decide_eq_true (by omega)
                  rw [← hbt2.out] at HZ
                  by_cases hfr : set.testBit j = true
                  · have e1 : A.scanB f fre (j + 1) = A.scanB f fre j := by simp only [A.scanB]; rw [if_neg (by rw [RV.out, hfr]; decide)]
                    have E1 := Lib.hid e1
                    rw [hfr] at HZ
                    have hne : (((set &&& bt : Nat) : Int) == 0) = false := by
                      rw [beq_eq_false_iff_ne]
                      intro e
                      have : (set &&& bt) = 0 := by omega
                      rw [this] at HZ
                      cases HZ
                    obtain ⟨ab, hab⟩ : ∃ ab : Nat, (set &&& bt) = ab := ⟨_, rfl⟩
                    rw [hab] at HA hne
                    clear HO HZ hab e1 hfr
                    go_wp2
                    go_roundw
                    case rel => exact ⟨j + 1, 2 * bt, m, by go_num, by omega, by go_num, HS2, by rw [E1.out], rfl⟩
                    case measure => simp [intOf] <;> omega
                  · have hfr : set.testBit j = false := by simpa using hfr
                    rw [hfr] at HZ
                    have h0 : (set &&& bt) = 0 := by simpa using HZ
                    rw [h0] at HA
                    have hso : (set ||| bt) < sz := by rw [hsz.out] at hst ⊢; rw [hbt2.out]; exact Nat.or_lt_two_pow hst (Nat.pow_lt_pow_right (by decide) hjt)
                    have hfj : f j = c (i + 1) (j + 1) + A.bst n c (n - (i + 1)) (set ||| bt) := by rw [FV.out, hbt2.out]
                    obtain ⟨so, hso'⟩ : ∃ so : Nat, (set ||| bt) = so := ⟨_, rfl⟩
                    rw [hso'] at HO hso hfj
                    have p0 := hbt.out.at_out (r := i + 1) (by omega) (by omega)
                    have p1 := hbt.out.at_row (r := i + 1) (by omega) (by omega) hso
                    rw [hL.out (i + 1) so (by omega) (by omega) hso] at p1
                    have hir : i < rs.length := by rw [HL.out]; exact hin
                    have hjr : j < rs[i].2.2.length := by rw [HRL.out i hir]; exact hjt
                    have hce := HCE.out i j hir hjr
                    obtain ⟨b1, o1, rfl, hb1, h1⟩ := HM.out.at_ (by omega)
                    have y0 := (hbl.out.cell (p := ⟨b1, o1 + i, none⟩) hb1).trans (h1 i hir)
                    obtain ⟨b3, o3, hA3, hb3, h3⟩ := C.nums_at (HM.out.each rs[i] (List.getElem_mem hir)).1 (by omega)
                    have z0 := (hbl.out.cell (p := ⟨b3, o3 + j, none⟩) hb3).trans (h3 j hjr)
                    rw [hA3, HRL.out i hir] at y0
                    rw [← hce] at z0
                    have hcr := HC0.out (i + 1) (j + 1)
                    have hb0 := HB0.out (n - (i + 1)) so
                    have hb1' := HB1.out (n - (i + 1)) so
                    have hnn : ((n - (i + 1) : Nat) : Int) ≤ 7 := by omega
                    have hstep : A.scanB f fre (j + 1) = if A.scanB f fre j < 0 ∨ f j < A.scanB f fre j then f j else A.scanB f fre j := by simp only [A.scanB]; rw [if_pos (by rw [RV.out, hfr]; decide)]
                    rw [hfj] at hstep
                    have HST := Lib.hid hstep
                    have q3 : (0 : Int) ≤ (j : Int) := by omega
                    have q4 : (j : Int) < (n : Int) := by omega
                    have q5 : (0 : Int) ≤ (i : Int) := by omega
                    have q6 : (i : Int) < (n : Int) := by omega
                    have q7 : (0 : Int) ≤ (so : Int) := by omega
                    have q8 : (so : Int) < (sz : Int) := by omega
                    have u5 : IntKind.i64.wrap ((i : Int) + 1) = ((i + 1 : Nat) : Int) := by simp [IntKind.wrap, IntKind.bits, IntKind.signed]; omega
                    clear HZ h0 hfr hfj hso' hstep h1 h3 hA3 hce
                    generalize A.bst n c (n - (i + 1)) so = bo at *
                    generalize c (i + 1) (j + 1) = cij at *
                    generalize rs[i].2.1 = crr at *
                    generalize G1 (i + 1) = gn at *
                    have u3 : IntKind.i64.wrap (cij + bo) = cij + bo := by simp [IntKind.wrap, IntKind.bits, IntKind.signed]; omega
                    obtain ⟨sc, hsc⟩ : ∃ sc, A.scanB f fre j = sc := ⟨_, rfl⟩
                    rw [hsc] at HST ⊢
                    clear hsc
                    by_cases c1 : sc < 0
                    · have t4 : decide (sc < 0) = true := decide_eq_true c1
                      have E1 : Hid (A.scanB f fre (j + 1) = cij + bo) := Lib.hid (by rw [HST.out, if_pos (.inl c1)])
                      clear HST
                      go_wp2_with fail
                      go_quiet (fail)
                      go_wp2
                      go_roundw
                      case rel => exact ⟨j + 1, 2 * bt, m + nq, by go_num, by omega, by go_num, HS2, by rw [E1.out], by simp⟩
                      case measure => simp [intOf] <;> omega
                    · have t4 : decide (sc < 0) = false := decide_eq_false c1
                      by_cases c2 : cij + bo < sc
                      · have t5 : decide (cij + bo < sc) = true := decide_eq_true c2
                        have E1 : Hid (A.scanB f fre (j + 1) = cij + bo) := Lib.hid (by rw [HST.out, if_pos (.inr c2)])
                        clear HST
                        go_wp2_with fail
                        go_quiet (fail)
                        go_wp2
                        go_roundw
                        case rel => exact ⟨j + 1, 2 * bt, m + nq, by go_num, by omega, by go_num, HS2, by rw [E1.out], by simp⟩
                        case measure => simp [intOf] <;> omega
                      · have t5 : decide (cij + bo < sc) = false := decide_eq_false c2
                        have E1 : Hid (A.scanB f fre (j + 1) = sc) := Lib.hid (by rw [HST.out, if_neg (by omega)])
                        clear HST
                        go_wp2_with fail
                        go_quiet (fail)
                        go_wp2
                        go_roundw
                        case rel => exact ⟨j + 1, 2 * bt, m + nq, by go_num, by omega, by go_num, HS2, by rw [E1.out], by simp⟩
                        case measure => simp [intOf] <;> omega
                · have t3 : decide ((j : Int) < (n : Int)) = false := decide_eq_false (by omega)
                  have hjn : j = n := by omega
                  rw [hjn]
                  clear hjn hbt2
                  obtain ⟨sc, hsc⟩ : ∃ sc, A.scanB f fre n = sc := ⟨_, rfl⟩
                  rw [hsc] at BS ⊢
                  have p0 := hbt.out.at_out (r := i) (Nat.le_refl _) (by omega)
                  have p1 := hbt.out.at_row (r := i) (Nat.le_refl _) (by omega) hst
                  have pf := hbt.out.fz_row (r := i) (Nat.le_refl _) (by omega) set
                  have q3 : (0 : Int) ≤ (set : Int) := by omega
                  have q5 : (0 : Int) ≤ (i : Int) := by omega
                  have q6 : (i : Int) < ((n + 1 : Nat) : Int) := by omega
                  have q7 : (i : Int) < (n : Int) + 1 := by omega
                  have hgi := (hbt.out.rlt (r := i) (Nat.le_refl _) (by omega)).1
                  obtain ⟨x, hx⟩ : ∃ x, A.bst n c (n - i) set = x := ⟨_, rfl⟩
                  have BT2 := Lib.hid ((hbt.out.drewN m).set (r := i) (s := set) (Nat.le_refl _) (by omega) hst x)
                  have BB2 := Lib.hid ((below_drewN hbl.out m).setCell (p := ⟨G1 i, set, none⟩) hgi (.int .i64 x))
                  have HL2 : Hid (∀ r s, i < r → r ≤ n → s < sz → (fun r' s' => if r' = i ∧ s' = set then x else L r' s') r s = A.bst n c (n - r) s) := Lib.hid (fun r s a b hs => by
                    show (if r = i ∧ s = set then x else L r s) = _
                    rw [if_neg (by omega)]
                    exact hL.out r s a b hs)
                  have HLi2 : Hid (∀ s, s < set + 1 → (fun r' s' => if r' = i ∧ s' = set then x else L r' s') i s = A.bst n c (n - i) s) := Lib.hid (fun s hs => by
                    show (if i = i ∧ s = set then x else L i s) = _
                    by_cases e : s = set
                    · rw [if_pos ⟨rfl, e⟩, e, hx]
                    · rw [if_neg (fun h => e h.2)]
                      exact hLi.out s (by omega))
                  obtain ⟨L2, hL2⟩ : ∃ L2, (fun r' s' => if r' = i ∧ s' = set then x else L r' s') = L2 := ⟨_, rfl⟩
                  rw [hL2] at HL2 HLi2 BT2
                  rw [hx] at BS
                  generalize L i set = xo at *
                  generalize G1 i = gi at *
                  clear hL2 hsc hx hbt hL hLi hbl
                  by_cases c1 : sc < 0
                  · have t4 : decide (sc < 0) = true := decide_eq_true c1
                    obtain rfl : x = 0 := by rw [BS.out, if_pos c1]
                    clear BS
                    go_wp2
                    go_roundw
                    case rel => exact ⟨set + 1, L2, by go_num, by omega, BT2, HL2, HLi2, BB2⟩
                    case measure => simp [intOf] <;> omega
                  · have t4 : decide (sc < 0) = false := decide_eq_false c1
                    obtain rfl : x = sc := by rw [BS.out, if_neg c1]
                    clear BS
                    go_wp2
                    go_roundw
                    case rel => exact ⟨set + 1, L2, by go_num, by omega, BT2, HL2, HLi2, BB2⟩
                    case measure => simp [intOf] <;> omega
            · have t0 : decide ((set : Int) < (sz : Int)) = false := decide_eq_false (by omega)
              have HL2 : Hid (∀ r s, i ≤ r → r ≤ n → s < sz → L r s = A.bst n c (n - r) s) := Lib.hid (fun r s a b hs => by
                by_cases e : r = i
                · subst e; exact hLi.out s (by omega)
                · exact hL.out r s (by omega) b hs)
              clear hL hLi
              go_wp2
              go_roundw
              case rel => exact ⟨i, G1, L, by go_num, by omega, hbt, HL2, hbl⟩
              case measure => simp [intOf] <;> omega
end Go.Proofs.Ytoemhphgnpedmaa
