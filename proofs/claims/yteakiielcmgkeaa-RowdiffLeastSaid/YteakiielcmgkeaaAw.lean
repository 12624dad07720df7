/-
  The walks of layer 17: awake. By an AI agent.
-/
import Derived.Test.YteakiielcmgkeaaAwP
import Derived.Test.YteakiielcmgkeaaSpl
import Derived.Test.YteakiielcmgkeaaSa
namespace Go.Proofs.Yteakiielcmgkeaa
open Go.RowKit Go.Deep

set_option maxRecDepth 100000 in
set_option maxHeartbeats 8000000 in
theorem awake_any (w : World) : Calls Try.prog 12 #[] w fun e w' => e = .returned (.bool true) ∧ Below w.heap.size w w' := by
  have P1 : Hid (Calls Try.prog 25 #[.string ⟨#[102, 105, 108, 101, 32, 49, 32, 111, 102, 32, 50]⟩] w fun e w' => R.Out (R.pl R.s1 11) w w' e) := Lib.hid (plain_any R.s1 w (by decide) R.ascii1)
  have P2 : Hid (∀ w, Calls Try.prog 25 #[.string ⟨#[102, 105, 108, 101, 32, 50, 32, 111, 102, 32, 50]⟩] w fun e w' => R.Out (R.pl R.s2 11) w w' e) := Lib.hid (fun w => plain_any R.s2 w (by decide) R.ascii2)
  have P3 : Hid (∀ w, Calls Try.prog 25 #[.string ⟨#[50]⟩] w fun e w' => R.Out (R.pl R.s3 1) w w' e) := Lib.hid (fun w => plain_any R.s3 w (by decide) R.ascii3)
  go_enter Try.func12, Try.ntmps12
  go_wp2_with fail
  refine P1.out.mono ?_
  rintro e w1 ⟨v1, rfl, o1, b1⟩
  obtain ⟨A1, c1, rfl, r1, h1⟩ := own_reads_cap o1
  have R1 := Lib.hid r1
  have B1 := Lib.hid b1
  clear P1 o1 r1 b1
  go_wp2_with fail
  refine (P2.out w1).mono ?_
  rintro e w2 ⟨v2, rfl, o2, b2⟩
  obtain ⟨A2, c2, rfl, r2, h2⟩ := own_reads_cap o2
  have B2 := Lib.hid (B1.out.trans (b2.mono B1.out.size))
  have SP := Lib.hid (splices_any A1 A2 c1 c2 w2.heap.size 3 (R.pl R.s1 11) (R.pl R.s2 11) w2 ((R1.out.below b2 (Nat.le_refl _)).more b2.size) r2 (Nat.le_refl _) (by rw [R.pl_len]; omega) (by rw [R.pl_len]; omega) h1 h2)
  rw [R.aw] at SP
  clear P2 o2 r2 b2 R1 B1 h1 h2
  go_wp2_with fail
  refine SP.out.mono ?_
  rintro e w3 ⟨v3, xs, rfl, own3, hx, b3⟩
  obtain ⟨A3, c3, rfl, ch3, _⟩ := own3.chs
  have hxl : xs.length = 1 := by have := congrArg List.length hx; simpa using this
  have HX := Lib.hid hx
  have CH3 := Lib.hid ch3
  have B3 := Lib.hid (B2.out.trans (b3.mono B2.out.size))
  have CO := Lib.hid (R.costX_of hx)
  have HXL := Lib.hid hxl
  rw [hxl]
  clear SP own3 hx ch3 b3 B2 hxl
  go_wp2_with fail
  refine (P3.out w3).mono ?_
  rintro e w4 ⟨v4, rfl, o4, b4⟩
  obtain ⟨A4, c4, rfl, _, _⟩ := own_reads_cap o4
  have e1 : (R.pl R.s3 1).length = 1 := R.pl_len _ _
  have ONE := Lib.hid (R.own_one (base := w3.heap.size) w4 ⟨⟨3, 3, 5, 1, 0, R.pl R.s3 1⟩, .slice A4 (R.pl R.s3 1).length c4⟩ b4.size o4)
  have B5 : Below w4.heap.size w4 (w4.alloc (.cells (R.Cs.cells ⟨⟨3, 3, 5, 1, 0, R.pl R.s3 1⟩, .slice A4 (R.pl R.s3 1).length c4⟩).toArray 29)) := (Below.refl _ _).alloc (Nat.le_refl _) _
  have CH := Lib.hid ((CH3.out.below (b4.trans (B5.mono b4.size)) (Nat.le_refl _)).more (Nat.le_trans b4.size B5.size))
  have HB := Lib.hid (B3.out.trans ((b4.trans (B5.mono b4.size)).mono B3.out.size))
  simp only [R.Cs.cells, e1] at ONE CH HB
  rw [e1]
  clear o4 b4 B5 CH3 B3 e1 P3
  obtain ⟨Aq, cq, hq, chs1, _⟩ := ONE.out.chs
  injection hq with hq1 hq2 hq3
  subst hq1
  have SM := Lib.hid (same_any A3 _ c3 1 _ xs [⟨⟨3, 3, 5, 1, 0, R.pl R.s3 1⟩, .slice A4 1 c4⟩] _ CH.out chs1 (by rw [HXL.out]; omega) (by simp) (R.gl1 HX.out) (R.gl1 (row := 3) (xs := [⟨⟨3, 3, 5, 1, 0, R.pl R.s3 1⟩, .slice A4 1 c4⟩]) rfl))
  have SE : Hid (decide (xs.map (·.c) = ([⟨⟨3, 3, 5, 1, 0, R.pl R.s3 1⟩, .slice A4 1 c4⟩] : List R.Cs).map (·.c)) = true) := Lib.hid (decide_eq_true (by rw [HX.out]; rfl))
  rw [SE.out, HXL.out] at SM
  have CK := Lib.hid (fun n => cost_any A3 c3 _ xs _ (CH.out.drewN n) (Nat.le_refl _) (by rw [HXL.out]; omega) (R.gl1 HX.out))
  rw [CO.out, HXL.out] at CK
  have c4' : R.cost [(⟨5, 1, R.pl R.s3 1⟩ : R.Ch R.G)] = 4 := by decide +kernel
  rw [c4'] at CK
  clear chs1 hq2 hq3 SE CO c4' CH ONE HX HXL
  go_wp2_with fail
  refine SM.out.mono ?_
  rintro e w6 ⟨rfl, n, rfl⟩
  go_wp2_with fail
  refine (CK.out n).mono ?_
  rintro e w7 ⟨rfl, b7⟩
  go_wp2_with fail
  go_ret
  exact ⟨rfl, (below_drewN HB.out n).trans (b7.mono HB.out.size)⟩
end Go.Proofs.Yteakiielcmgkeaa
