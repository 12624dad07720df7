/-
  The statements of layer 17: RowdiffSplices. By an AI agent.
-/
import Derived.Test.YteakiielcmgkeaaLwp
import Derived.Test.YteakiielcmgkeaaRSpl
namespace Go.Proofs.Yteakiielcmgkeaa
set_option linter.unusedSimpArgs false
set_option linter.unusedVariables false
open Go.RowKit Go.Deep

set_option maxRecDepth 100000 in
set_option maxHeartbeats 8000000 in
theorem spliceslaw_any (row : Int) (A1 : Option Addr) (c1 : Nat) (a : List R.G) (A2 : Option Addr) (c2 : Nat) (b : List R.G) (w : World) (_hr0 : -9223372036854775808 ≤ row) (_hr1 : row ≤ 9223372036854775807) (ha : Reads w w.heap.size 3 A1 a.length (R.gcs a)) (hla : a.length ≤ maxLen) (hca : a.length ≤ c1) (hb : Reads w w.heap.size 3 A2 b.length (R.gcs b)) (hlb : b.length ≤ maxLen) (hcb : b.length ≤ c2) :
    Calls Try.prog 3 #[.int .i64 row, .slice A1 a.length c1, .slice A2 b.length c2] w fun e w' => e = .returned (.bool true) ∧ Below w.heap.size w w' := by
  have FN := Lib.hid (fine2_any A1 A2 c1 c2 a.length b.length w hla hlb)
  have b0 : Below w.heap.size w (w.alloc (.cells #[.slice A1 a.length c1, .slice A2 b.length c2] 22)) := (Below.refl _ _).alloc (Nat.le_refl _) _
  have B0 := Lib.hid b0
  have HA := Lib.hid ha
  have HB := Lib.hid hb
  clear ha hb hla hlb
  cases hf : R.fine [a.length, b.length] with
  | false =>
    rw [hf] at FN
    clear hf b0
    go_enter Try.func3, Try.ntmps3
    go_wp2_with fail
    refine FN.out.mono ?_
    rintro e w1 ⟨rfl, rfl⟩
    go_wp2_with fail
    refine (awake_any _).mono ?_
    rintro e w5 ⟨rfl, b5⟩
    go_wp2_with fail
    go_ret
    exact ⟨rfl, B0.out.trans (b5.mono B0.out.size)⟩
  | true =>
  rw [hf] at FN
  obtain ⟨la, lb⟩ := R.fine2 hf
  clear hf b0
  go_enter Try.func3, Try.ntmps3
  go_wp2_with fail
  refine FN.out.mono ?_
  rintro e w1 ⟨rfl, rfl⟩
  obtain ⟨W1, hW1⟩ : ∃ W, w.alloc (.cells #[.slice A1 a.length c1, .slice A2 b.length c2] 22) = W := ⟨_, rfl⟩
  rw [hW1] at B0 ⊢
  clear hW1 FN
  have SP1 := Lib.hid (splices_any A1 A2 c1 c2 w.heap.size row a b W1 (HA.out.below B0.out (Nat.le_refl _)) (HB.out.below B0.out (Nat.le_refl _)) B0.out.size (by omega) (by omega) hca hcb)
  go_wp2_with fail
  refine SP1.out.mono ?_
  rintro e w2 ⟨v2, xs, rfl, own2, hx, b2⟩
  obtain ⟨A3, c3, rfl, ch3, _⟩ := own2.chs
  have HX := Lib.hid hx
  have CH3 := Lib.hid ch3
  have B2 := Lib.hid (B0.out.trans (b2.mono B0.out.size))
  have SP2 := Lib.hid (refsplices_any A1 A2 c1 c2 w.heap.size row a b w2 (HA.out.below B2.out (Nat.le_refl _)) (HB.out.below B2.out (Nat.le_refl _)) B2.out.size (by omega) (by omega) hca hcb)
  clear SP1 own2 hx ch3 b2 B0
  go_wp2_with fail
  refine SP2.out.mono ?_
  rintro e w3 ⟨v3, ys, rfl, own3, hy, b3⟩
  obtain ⟨A4, c4, rfl, ch4, _⟩ := own3.chs
  have HE : Hid (decide (xs.map (·.c) = ys.map (·.c)) = true) := Lib.hid (decide_eq_true (by rw [HX.out, hy]))
  have lx := R.sp_low (by omega) (by omega) HX.out
  have ly := R.sp_low (by omega) (by omega) hy
  have SM := same_any A3 A4 c3 c4 w3.heap.size xs ys w3 ((CH3.out.below b3 (Nat.le_refl _)).more b3.size) ch4 (by omega) (by omega) lx.2 ly.2
  rw [HE.out] at SM
  have SM := Lib.hid SM
  have B3 := Lib.hid (B2.out.trans (b3.mono B2.out.size))
  have RP1 := Lib.hid (fun n => replace_any A1 A2 c1 c2 w.heap.size row a b (w3.drewN n) (HA.out.below (below_drewN B3.out n) (Nat.le_refl _)) (HB.out.below (below_drewN B3.out n) (Nat.le_refl _)) (below_drewN B3.out n).size (by omega) (by omega) hca hcb)
  clear SP2 own3 hy ch4 lx ly HE HX CH3 B2 b3
  go_wp2_with fail
  refine SM.out.mono ?_
  rintro e w4 ⟨rfl, n, rfl⟩
  have RP1' := Lib.hid (RP1.out n)
  have B4 := Lib.hid (below_drewN B3.out n)
  obtain ⟨W4, hW4⟩ : ∃ W, w3.drewN n = W := ⟨_, rfl⟩
  rw [hW4] at RP1' B4 ⊢
  clear SM RP1 hW4 B3
  go_wp2_with fail
  refine RP1'.out.mono ?_
  rintro e w5 ⟨v5, rfl, own5, b5⟩
  obtain ⟨A5, c5, rfl, _, _⟩ := own_reads_cap own5
  have tb := trim_len b
  have ONE1 := R.own_one (base := W4.heap.size) w5 ⟨⟨3, row, 0, ((R.trimEnd R.bl a).length : Nat), 0, R.trimEnd R.bl b⟩, .slice A5 (R.trimEnd R.bl b).length c5⟩ b5.size own5
  have B6 : Below w5.heap.size w5 (w5.alloc (.cells (R.Cs.cells ⟨⟨3, row, 0, ((R.trimEnd R.bl a).length : Nat), 0, R.trimEnd R.bl b⟩, .slice A5 (R.trimEnd R.bl b).length c5⟩).toArray 29)) := (Below.refl _ _).alloc (Nat.le_refl _) _
  have HB6 := Lib.hid (B4.out.trans ((b5.trans (B6.mono b5.size)).mono B4.out.size))
  have RP2 := Lib.hid (refreplace_any A1 A2 c1 c2 w.heap.size row a b (w5.alloc (.cells (R.Cs.cells ⟨⟨3, row, 0, ((R.trimEnd R.bl a).length : Nat), 0, R.trimEnd R.bl b⟩, .slice A5 (R.trimEnd R.bl b).length c5⟩).toArray 29)) (HA.out.below HB6.out (Nat.le_refl _)) (HB.out.below HB6.out (Nat.le_refl _)) HB6.out.size (by omega) (by omega) hca hcb)
  have ONE1 := Lib.hid ONE1
  simp only [R.Cs.cells] at ONE1 HB6 RP2 ⊢
  clear RP1' own5 b5 B6 B4 HA HB
  go_wp2_with fail
  refine RP2.out.mono ?_
  rintro e w7 ⟨v7, rfl, own7, b7⟩
  obtain ⟨A7, c7, rfl, _, _⟩ := own_reads_cap own7
  have ONE2 := R.own_one (base := w5.heap.size) w7 ⟨⟨3, row, 0, ((R.trimEnd R.bl a).length : Nat), 0, R.trimEnd R.bl b⟩, .slice A7 (R.trimEnd R.bl b).length c7⟩ (Nat.le_trans (by simp) b7.size) (own_lower own7 (by simp))
  have B8 : Below w7.heap.size w7 (w7.alloc (.cells (R.Cs.cells ⟨⟨3, row, 0, ((R.trimEnd R.bl a).length : Nat), 0, R.trimEnd R.bl b⟩, .slice A7 (R.trimEnd R.bl b).length c7⟩).toArray 29)) := (Below.refl _ _).alloc (Nat.le_refl _) _
  have b78 := b7.trans (B8.mono b7.size)
  have HB8 := Lib.hid (HB6.out.trans (b78.mono HB6.out.size))
  have ONE1' := ONE1.out.below b78
  simp only [R.Cs.cells] at ONE1' ONE2 HB8 ⊢
  obtain ⟨Aq, cq, hq, chs1, _⟩ := ONE1'.chs
  obtain ⟨Ar, cr, hr, chs2, _⟩ := ONE2.chs
  injection hq with hq1 hq2 hq3
  injection hr with hr1 hr2 hr3
  subst hq1 hr1
  have SM := same_any _ _ 1 1 _ _ _ _ chs1 chs2 (by simp) (by simp) (R.one_low (by simp only; omega)) (R.one_low (by simp only; omega))
  rw [decide_eq_true (by rfl)] at SM
  have SM := Lib.hid SM
  clear RP2 own7 b7 B8 b78 HB6 ONE1 ONE1' ONE2 chs1 chs2 hq2 hq3 hr2 hr3
  go_wp2_with fail
  refine SM.out.mono ?_
  rintro e w9 ⟨rfl, m, rfl⟩
  have B9 := Lib.hid (below_drewN HB8.out m)
  clear SM HB8
  go_wp2_with fail
  refine (awake_any _).mono ?_
  rintro e w8 ⟨rfl, b8⟩
  go_wp2_with fail
  go_ret
  exact ⟨rfl, B9.out.trans (b8.mono B9.out.size)⟩
end Go.Proofs.Yteakiielcmgkeaa
