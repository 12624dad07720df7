/-
  The statements of layer 30: IdentityMoves. By an AI agent.
-/
import Derived.Test.YtoemhphgnpedmaaMPlain
import Derived.Test.YtoemhphgnpedmaaOv
import Derived.Test.YtoemhphgnpedmaaUn
import Derived.Test.YtoemhphgnpedmaaLa3
import Derived.Test.YtoemhphgnpedmaaLa6
import Derived.Deep.DeepCutAuto
namespace Go.Proofs.Ytoemhphgnpedmaa
open Go.RowKit

/-- The boxes of a region and of the one that moved, and the list that the call made. -/
structure I.Mv (N X L n : Nat) (r m : I.Rg) (v : Value) (l : List I.Rg) (w W : World) : Prop where
  r : I.At W N 0 r
  m : I.At W X 0 m
  nx : N < X
  xl : X < L
  own : W.ownsRow L 27 8 v n (I.rcs l)
  le : L ≤ W.heap.size
  bel : Below N w W
theorem I.Mv.below {N X L n : Nat} {r m : I.Rg} {v : Value} {l : List I.Rg} {w W W' : World} (h : I.Mv N X L n r m v l w W) (hb : Below W.heap.size W W') : I.Mv N X L n r m v l w W' :=
  have h1 := h.nx
  have h2 := h.xl
  have h3 := h.le
  ⟨h.r.below hb (by omega), h.m.below hb (by omega), h.nx, h.xl, own_under h.own hb, Nat.le_trans h.le hb.size, h.bel.trans (hb.mono (by omega))⟩
theorem I.Mv.store {N X L n g cg : Nat} {r m : I.Rg} {l : List I.Rg} {w W : World} (h : I.Mv N X L n r m (.slice (some ⟨g, 0, none⟩) n cg) l w W) (hg : L ≤ g) {i : Nat} (hi : i < l.length) (x : Int) :
    I.Mv N X L n r m (.slice (some ⟨g, 0, none⟩) n cg) (l.set i { l.getD i default with id := x }) w (W.setCell ⟨g, i * 8 + 1, none⟩ (.int .i64 x)) := by
  have b : Below L W (W.setCell ⟨g, i * 8 + 1, none⟩ (.int .i64 x)) := (Below.refl _ _).setCell hg _
  have h1 := h.nx
  have h2 := h.xl
  have h3 := (h.own.stored (i * 8 + 1) (.int .i64 x)).1
  rw [I.rcs_set _ hi] at h3
  exact ⟨h.r.below b (by omega), h.m.below b (by omega), h.nx, h.xl, h3, Nat.le_trans h.le b.size, h.bel.trans (b.mono (by omega))⟩
theorem I.like_kind {a b : I.Rg} (h : a.kind ≠ b.kind) : I.like a b = 0 := by
  unfold I.like
  rw [if_neg (fun e => h e.2.2)]
theorem I.wrap_in {x : Int} (h : -1000 ≤ x ∧ x ≤ 1000) : IntKind.i64.wrap x = x := by simp [IntKind.wrap, IntKind.bits, IntKind.signed]; omega
theorem own_cap {w : World} {base : Nat} {e : TypeId} {size n g cg : Nat} {xs : List Value} (h : w.ownsRow base e size (.slice (some ⟨g, 0, none⟩) n cg) n xs) : n ≤ cg := by
  rcases h.2 with ⟨h, _⟩ | ⟨g', cap, cur, h, _, _, hnc, _⟩
  · cases h
  · injection h with h1 h2 h3; omega
/-- What the law needs of Match. -/
def I.MvOut (m : Nat) (W W' : World) (e : Ending) : Prop := ∃ gr c2 x, e = .returned (.tuple #[.slice (some ⟨gr, 0, none⟩) m c2, .int .i64 x]) ∧ W'.cell? ⟨gr, 1, none⟩ = some (.int .i64 0) ∧ Below W.heap.size W W'
theorem run_first (g nl cg : Nat) (h : 0 < nl) (w : World) : (Instr.indexAt 22 (.slice (some ⟨g, 0, none⟩) nl cg) (.int .i64 0)).run Try.prog w = .ok (.pointer (some ⟨g, 0, none⟩)) w := by
  simp [Instr.indexAt, run_underlying Try.underlying22, asIntOf, go_sem]
  omega
set_option maxRecDepth 100000 in
set_option maxHeartbeats 16000000 in
theorem movelaw_any (A : Option Addr) (c : Nat) (ot : List I.Rg) (r : I.Rg) (dn rt un : Int) (w : World) (hr : Reads w w.heap.size 8 A ot.length (I.rcs ot)) (ho : I.Ok ot) (hc : ot.length ≤ c) (hrn : I.Num r) :
    Calls Try.prog 9 #[.slice A ot.length c, r.val, .int .i64 dn, .int .i64 rt, .int .i64 un] w fun e w' => e = .returned (.bool true) ∧ Below w.heap.size w w' := by
  have G0 := Lib.hid (fun w1 (h : Reads w1 w.heap.size 8 A ot.length (I.rcs ot)) => great_any A c w.heap.size ot 10 w1 h ho (by decide))
  have HR := Lib.hid hr
  have hl0 := ho.1
  have hlab := hrn.lab
  unfold maxLen at hl0 hlab
  have B0 := Lib.hid ((Below.refl w.heap.size w).alloc (Nat.le_refl _) (.cells r.cells.toArray 27))
  have A0 := Lib.hid (I.At.new r w)
  clear hr ho hrn
  have PR := Lib.hid (refproper_any r)
  have PM := Lib.hid (refproper_any)
  obtain ⟨rk, ri, rp, rt_, rl, rb, rr, rlb⟩ := r
  simp only [I.Rg.val, I.Rg.cells] at B0 PR hlab ⊢
  have HR0 := Lib.hid (HR.out.below B0.out (Nat.le_refl _))
  cases g0 : I.great ot 10 with
  | true =>
    rw [g0] at G0
    clear PR PM
    go_enter Try.func9, Try.ntmps9
    go_wp2_with fail
    refine (G0.out _ HR0.out).mono ?_
    rintro e w1 ⟨rfl, rfl⟩
    go_wp2_with fail
    refine (awake_any _).mono ?_
    rintro e w5 ⟨rfl, b5⟩
    go_wp2_with fail
    go_ret
    exact ⟨rfl, B0.out.trans (b5.mono B0.out.size)⟩
  | false =>
  rw [g0] at G0
  have l0 := (I.great_false g0).1
  clear g0
  have G1 := Lib.hid (G0.out _ HR0.out)
  clear G0
  have c0 : _ := A0.out.c7
  simp only [I.Rg.cells, Nat.zero_add] at c0
  have cases7 : (200 < rlb.size ∨ (¬ 200 < rlb.size ∧ dn < -60) ∨ (¬ 200 < rlb.size ∧ ¬ dn < -60 ∧ 60 < dn) ∨ (¬ 200 < rlb.size ∧ ¬ dn < -60 ∧ ¬ 60 < dn ∧ rt < -140) ∨ (¬ 200 < rlb.size ∧ ¬ dn < -60 ∧ ¬ 60 < dn ∧ ¬ rt < -140 ∧ 140 < rt) ∨ (¬ 200 < rlb.size ∧ ¬ dn < -60 ∧ ¬ 60 < dn ∧ ¬ rt < -140 ∧ ¬ 140 < rt ∧ un < 1) ∨ (¬ 200 < rlb.size ∧ ¬ dn < -60 ∧ ¬ 60 < dn ∧ ¬ rt < -140 ∧ ¬ 140 < rt ∧ ¬ un < 1 ∧ 1099511627776 < un)) ∨
      (rlb.size ≤ 200 ∧ -60 ≤ dn ∧ dn ≤ 60 ∧ -140 ≤ rt ∧ rt ≤ 140 ∧ 1 ≤ un ∧ un ≤ 1099511627776) := by omega
  rcases cases7 with hu | ⟨a1, a2, a3, a4, a5, a6, a7⟩
  · rcases hu with h1 | ⟨h1, h2⟩ | ⟨h1, h2, h3⟩ | ⟨h1, h2, h3, h4⟩ | ⟨h1, h2, h3, h4, h5⟩ | ⟨h1, h2, h3, h4, h5, h6⟩ | ⟨h1, h2, h3, h4, h5, h6, h7⟩
    all_goals
      clear PR PM
      go_enter Try.func9, Try.ntmps9
      go_wp2_with fail
      refine G1.out.mono ?_
      rintro e w1 ⟨rfl, rfl⟩
      go_wp2_with fail
      refine (awake_any _).mono ?_
      rintro e w5 ⟨rfl, b5⟩
      go_wp2_with fail
      go_ret
      exact ⟨rfl, B0.out.trans (b5.mono B0.out.size)⟩
  obtain ⟨T, hT⟩ : ∃ T, IntKind.i64.wrap (rt_ + dn) = T := ⟨_, rfl⟩
  obtain ⟨Bo, hBo⟩ : ∃ Bo, IntKind.i64.wrap (rb + dn) = Bo := ⟨_, rfl⟩
  obtain ⟨L, hL⟩ : ∃ L, IntKind.i64.wrap (rl + rt) = L := ⟨_, rfl⟩
  obtain ⟨R, hR⟩ : ∃ R, IntKind.i64.wrap (rr + rt) = R := ⟨_, rfl⟩
  have HT := Lib.hid hT
  have HBo := Lib.hid hBo
  have HL := Lib.hid hL
  have HRR := Lib.hid hR
  go_enter Try.func9, Try.ntmps9
  go_wp2_with fail
  refine G1.out.mono ?_
  rintro e w1 ⟨rfl, rfl⟩
  clear G1
  go_upto_region 4 with fail
  go_cut [11] (fun s11 wx => ∃ X : Nat, s11 = .pointer (some ⟨X, 0, none⟩) ∧ I.At wx X 0 (⟨rk, ri, rp, T, L, Bo, R, rlb⟩ : I.Rg) ∧ I.At wx w.heap.size 0 (⟨rk, ri, rp, rt_, rl, rb, rr, rlb⟩ : I.Rg) ∧ Below w.heap.size w wx ∧ w.heap.size < X ∧ X < wx.heap.size)
  case first =>
    go_region
    all_goals
      go_wp2_with fail
      go_meet
    refine ⟨w.heap.size + 1, rfl, ?_, (A0.out.below (((Below.refl (w.alloc (.cells (⟨rk, ri, rp, rt_, rl, rb, rr, rlb⟩ : I.Rg).cells.toArray 27)).heap.size _).alloc (Nat.le_refl _) (.cells (⟨rk, ri, rp, T, L, Bo, R, rlb⟩ : I.Rg).cells.toArray 27))) (by simp)).drewN 1, (B0.out.alloc (by simp) (.cells (⟨rk, ri, rp, T, L, Bo, R, rlb⟩ : I.Rg).cells.toArray 27)).drew, by omega, by simp⟩
    have h := I.At.new (⟨rk, ri, rp, T, L, Bo, R, rlb⟩ : I.Rg) (w.alloc (.cells (⟨rk, ri, rp, rt_, rl, rb, rr, rlb⟩ : I.Rg).cells.toArray 27))
    rw [World.size_alloc] at h
    exact h.drewN 1
  case rest =>
    clear hT hBo hL hR c0
    obtain ⟨X, rfl, hm, hr, hbel, hNX, hX⟩ := hcut
    obtain ⟨N, hN⟩ : ∃ N, w.heap.size = N := ⟨_, rfl⟩
    rw [hN] at hr hbel hNX HR ⊢
    have HN := Lib.hid hN
    have BL := Lib.hid hbel
    have HM := Lib.hid hm
    have HBR := Lib.hid hr
    obtain ⟨x0, x1, x2, x3, x4, x5, x6, x7⟩ := hr
    obtain ⟨y0, y1, y2, y3, y4, y5, y6, y7⟩ := hm
    simp only [Nat.zero_add] at x0 x1 x2 x3 x4 x5 x6 x7 y0 y1 y2 y3 y4 y5 y6 y7
    have hNc : N ≤ wc.heap.size := by omega
    clear hN hbel A0 B0 HR0
    have PMM := Lib.hid (fun w1 => PM.out (⟨rk, ri, rp, T, L, Bo, R, rlb⟩ : I.Rg) w1)
    clear PM
    simp only [I.Rg.val, I.Rg.cells] at PMM
    obtain ⟨p0, hp0⟩ : ∃ p0, I.proper (⟨rk, ri, rp, rt_, rl, rb, rr, rlb⟩ : I.Rg) = p0 := ⟨_, rfl⟩
    obtain ⟨p1, hp1⟩ : ∃ p1, I.proper (⟨rk, ri, rp, T, L, Bo, R, rlb⟩ : I.Rg) = p1 := ⟨_, rfl⟩
    rw [hp0] at PR
    rw [hp1] at PMM
    have HP0 := Lib.hid hp0
    have HP1 := Lib.hid hp1
    clear hp0 hp1
    cases p0 with
    | false =>
      go_wp2_with fail
      refine (PR.out _).mono ?_
      rintro e w2 ⟨rfl, b2⟩
      go_wp2_with fail
      refine (awake_any _).mono ?_
      rintro e w5 ⟨rfl, b5⟩
      go_wp2_with fail
      go_ret
      exact ⟨rfl, by rw [HN.out]; exact BL.out.trans ((b2.mono hNc).trans (b5.mono (Nat.le_trans hNc b2.size)))⟩
    | true =>
    have LAY : Hid (∀ W, Below wc.heap.size wc W → I.At W X 0 (⟨rk, ri, rp, T, L, Bo, R, rlb⟩ : I.Rg) ∧ I.At W N 0 (⟨rk, ri, rp, rt_, rl, rb, rr, rlb⟩ : I.Rg) ∧ Below N w W ∧ X < W.heap.size) := Lib.hid (fun W h => ⟨HM.out.below h hX, HBR.out.below h (by omega), BL.out.trans (h.mono hNc), Nat.lt_of_lt_of_le hX h.size⟩)
    cases p1 with
    | false =>
      go_wp2_with fail
      refine (PR.out _).mono ?_
      rintro e w2 ⟨rfl, b2⟩
      obtain ⟨h1, h2, h3, h4⟩ := LAY.out w2 b2
      clear x0 x1 x2 x3 x4 x5 x6 x7 y0 y1 y2 y3 y4 y5 y6 y7
      obtain ⟨y0, y1, y2, y3, y4, y5, y6, y7⟩ := h1
      simp only [Nat.zero_add] at y0 y1 y2 y3 y4 y5 y6 y7
      clear h2
      go_wp2_with fail
      refine (PMM.out _).mono ?_
      rintro e w3 ⟨rfl, b3⟩
      go_wp2_with fail
      refine (awake_any _).mono ?_
      rintro e w5 ⟨rfl, b5⟩
      go_wp2_with fail
      go_ret
      exact ⟨rfl, by rw [HN.out]; exact h3.trans ((b3.mono (Nat.le_trans hNc b2.size)).trans (b5.mono (Nat.le_trans hNc (Nat.le_trans b2.size b3.size))))⟩
    | true =>
    go_wp2_with fail
    refine (PR.out _).mono ?_
    rintro e w2 ⟨rfl, b2⟩
    obtain ⟨h1, h2, h3, h4⟩ := LAY.out w2 b2
    clear x0 x1 x2 x3 x4 x5 x6 x7 y0 y1 y2 y3 y4 y5 y6 y7
    obtain ⟨y0, y1, y2, y3, y4, y5, y6, y7⟩ := h1
    simp only [Nat.zero_add] at y0 y1 y2 y3 y4 y5 y6 y7
    clear h2 h3 h4
    go_wp2_with fail
    refine (PMM.out _).mono ?_
    rintro e w3 ⟨rfl, b3⟩
    obtain ⟨h1, h2, h3, h4⟩ := LAY.out w3 (b2.trans (b3.mono b2.size))
    have HM3 := Lib.hid h1
    have HR3 := Lib.hid h2
    have HB3 := Lib.hid h3
    obtain ⟨x0, x1, x2, x3, x4, x5, x6, x7⟩ := h2
    simp only [Nat.zero_add] at x0 x1 x2 x3 x4 x5 x6 x7
    have hX3 := h4
    have hN3 : N ≤ w3.heap.size := by omega
    clear y0 y1 y2 y3 y4 y5 y6 y7 b2 b3 LAY PMM PR h1 h3 hX HM HBR BL h4
    obtain ⟨i0, hi, hz0, hz1, hz2⟩ := info_parts infoRg
    have own0 : (w3.alloc (.cells (⟨rk, ri, rp, rt_, rl, rb, rr, rlb⟩ : I.Rg).cells.toArray 27)).ownsRow w3.heap.size 27 8 (.slice (some ⟨w3.heap.size, 0, none⟩) 1 1) 1 (⟨rk, ri, rp, rt_, rl, rb, rr, rlb⟩ : I.Rg).cells := World.ownsRow_lit (base := w3.heap.size) (e := 27) (size := 8) w3 (⟨rk, ri, rp, rt_, rl, rb, rr, rlb⟩ : I.Rg).cells.toArray 1 (Nat.le_refl _) (by decide) rfl
    have b0 : Below w3.heap.size w3 (w3.alloc (.cells (⟨rk, ri, rp, rt_, rl, rb, rr, rlb⟩ : I.Rg).cells.toArray 27)) := (Below.refl _ _).alloc (Nat.le_refl _) _
    have rO : Reads (w3.alloc (.cells (⟨rk, ri, rp, rt_, rl, rb, rr, rlb⟩ : I.Rg).cells.toArray 27)) N 8 A ot.length (I.rcs ot) := HR.out.below (HB3.out.trans (b0.mono hN3)) (Nat.le_refl _)
    go_wp2_with (at_builtin; refine wpList_append_any _ rfl (.tmp 82) (.tmp 83) 22 rfl w3.heap.size 27 i0 _ 8 72 Try.underlying22 hi hz0 hz1 hz2 rfl (by decide) (.slice (some ⟨w3.heap.size, 0, none⟩) 1 1) 1 (⟨rk, ri, rp, rt_, rl, rb, rr, rlb⟩ : I.Rg).cells rfl own0 N A ot.length c (I.rcs ot) rfl rO (I.rcs_one _) (by simp only [maxLen]; omega) (by omega) b0.size ?_; intro v4 W4 hown4 hgrow4 hnew4; (have b4 : Below w3.heap.size w3 W4 := b0.grown hgrow4 b0.size (own_below own0 (Nat.le_refl _))); (obtain ⟨nl, hnl⟩ : ∃ nl, 1 + ot.length = nl := ⟨_, rfl⟩); (rw [hnl] at hown4); (have hnl1 : nl ≤ ot.length + 1 := (by omega)); (have hnl2 : ot.length + 1 ≤ nl := (by omega)); (have O4 : W4.ownsRow w3.heap.size 27 8 v4 nl (I.rcs ((⟨rk, ri, rp, rt_, rl, rb, rr, rlb⟩ : I.Rg) :: ot)) := hown4); (obtain ⟨g, cg, rfl, hg1, hg2⟩ := O4.form (by omega)); (have c1 := (I.own_at O4 (i := 0) (by simp)).c1); (have f1 := O4.frozenAt 1); (have hst := Lib.hid (O4.stored 1 (.int .i64 0)).1); (clear own0 b0 rO hgrow4 hnew4 O4 hown4); (have HNL := Lib.hid hnl); (clear hnl); (have B4 := Lib.hid b4); (clear b4); (simp only [Nat.zero_mul, Nat.zero_add, List.getD_cons_zero] at c1); (clear x0 x1 x2 x3 x4 x5 x6 x7); (have b5 : Below w3.heap.size w3 (W4.setCell ⟨g, 1, none⟩ (.int .i64 0)) := B4.out.setCell hg1 _); (have MV0 : Hid (I.Mv N X w3.heap.size nl (⟨rk, ri, rp, rt_, rl, rb, rr, rlb⟩ : I.Rg) (⟨rk, ri, rp, T, L, Bo, R, rlb⟩ : I.Rg) (.slice (some ⟨g, 0, none⟩) nl cg) ((⟨rk, 0, rp, rt_, rl, rb, rr, rlb⟩ : I.Rg) :: ot) w (W4.setCell ⟨g, 1, none⟩ (.int .i64 0))) := Lib.hid ⟨HR3.out.below b5 (by omega), HM3.out.below b5 (by omega), hNX, hX3, by have h := hst.out; exact h, b5.size, HB3.out.trans (b5.mono hN3)⟩); (obtain ⟨S, hS⟩ : ∃ S, w3.heap.size = S := ⟨_, rfl⟩); (rw [hS] at MV0 hg1 hX3); (have IX := run_first g nl cg (by omega)); (clear hst b5 B4 HM3 HR3 HB3 hS hN3))
    go_loopw [90] (fun i wr => ∃ k : Nat, k ≤ ot.length ∧ i = .int .i64 k ∧ Hid (∀ j, j < k → (ot.getD j default).kind = rk → I.like (ot.getD j default) (⟨rk, ri, rp, rt_, rl, rb, rr, rlb⟩ : I.Rg) ≤ 100 ∧ I.like (ot.getD j default) (⟨rk, ri, rp, T, L, Bo, R, rlb⟩ : I.Rg) ≤ 100) ∧ Hid (I.Mv N X S nl (⟨rk, ri, rp, rt_, rl, rb, rr, rlb⟩ : I.Rg) (⟨rk, ri, rp, T, L, Bo, R, rlb⟩ : I.Rg) (.slice (some ⟨g, 0, none⟩) nl cg) ((⟨rk, 0, rp, rt_, rl, rb, rr, rlb⟩ : I.Rg) :: ot) w wr)) (fun i _ => ot.length - (intOf i).toNat)
    case atStart => exact ⟨0, Nat.zero_le _, rfl, Lib.hid (fun j h => absurd h (by omega)), MV0⟩
    case round =>
      clear MV0 c1 f1
      obtain ⟨k, hk, rfl, hap, hmv⟩ := hrel
      by_cases hlt : k < ot.length
      · obtain ⟨ba, oa, rfl, hba, h1⟩ := (HR.out.below hmv.out.bel (Nat.le_refl _)).rg (by omega)
        have ao := h1 k hlt
        have q1 : (0 : Int) ≤ (k : Int) := by omega
        have q2 : (k : Int) < (ot.length : Int) := by omega
        obtain ⟨x0, x1, x2, x3, x4, x5, x6, x7⟩ := hmv.out.r
        obtain ⟨y0, y1, y2, y3, y4, y5, y6, y7⟩ := hmv.out.m
        simp only [Nat.zero_add] at x0 x1 x2 x3 x4 x5 x6 x7 y0 y1 y2 y3 y4 y5 y6 y7
        clear h1
        by_cases hkd : (ot.getD k default).kind = rk
        · -- REGION12
          have HAP := Lib.hid hap
          obtain ⟨o, ho⟩ : ∃ o, ot.getD k default = o := ⟨_, rfl⟩
          have HO := Lib.hid ho
          rw [ho] at ao hkd
          obtain ⟨ok, oi, op, ot_, ol, ob, or_, olb⟩ := o
          obtain rfl : rk = ok := hkd.symm
          obtain ⟨z0, z1, z2, z3, z4, z5, z6, z7⟩ := ao
          simp only at z0 z1 z2 z3 z4 z5 z6 z7
          clear ho hap
          have SK : Hid (∀ W W', Below W.heap.size W W' → (W.cell? ⟨ba, oa + k * 8, none⟩ = some (.int .i64 rk) ∧ W.cell? ⟨ba, oa + k * 8 + 1, none⟩ = some (.int .i64 oi) ∧ W.cell? ⟨ba, oa + k * 8 + 2, none⟩ = some (.int .i64 op) ∧ W.cell? ⟨ba, oa + k * 8 + 3, none⟩ = some (.int .i64 ot_) ∧ W.cell? ⟨ba, oa + k * 8 + 4, none⟩ = some (.int .i64 ol) ∧ W.cell? ⟨ba, oa + k * 8 + 5, none⟩ = some (.int .i64 ob) ∧ W.cell? ⟨ba, oa + k * 8 + 6, none⟩ = some (.int .i64 or_) ∧ W.cell? ⟨ba, oa + k * 8 + 7, none⟩ = some (.string olb) ∧ W.cell? ⟨N, 0, none⟩ = some (.int .i64 rk) ∧ W.cell? ⟨N, 1, none⟩ = some (.int .i64 ri) ∧ W.cell? ⟨N, 2, none⟩ = some (.int .i64 rp) ∧ W.cell? ⟨N, 3, none⟩ = some (.int .i64 rt_) ∧ W.cell? ⟨N, 4, none⟩ = some (.int .i64 rl) ∧ W.cell? ⟨N, 5, none⟩ = some (.int .i64 rb) ∧ W.cell? ⟨N, 6, none⟩ = some (.int .i64 rr) ∧ W.cell? ⟨N, 7, none⟩ = some (.string rlb) ∧ W.cell? ⟨X, 0, none⟩ = some (.int .i64 rk) ∧ W.cell? ⟨X, 1, none⟩ = some (.int .i64 ri) ∧ W.cell? ⟨X, 2, none⟩ = some (.int .i64 rp) ∧ W.cell? ⟨X, 3, none⟩ = some (.int .i64 T) ∧ W.cell? ⟨X, 4, none⟩ = some (.int .i64 L) ∧ W.cell? ⟨X, 5, none⟩ = some (.int .i64 Bo) ∧ W.cell? ⟨X, 6, none⟩ = some (.int .i64 R) ∧ W.cell? ⟨X, 7, none⟩ = some (.string rlb) ∧ I.Mv N X S nl (⟨rk, ri, rp, rt_, rl, rb, rr, rlb⟩ : I.Rg) (⟨rk, ri, rp, T, L, Bo, R, rlb⟩ : I.Rg) (.slice (some ⟨g, 0, none⟩) nl cg) ((⟨rk, 0, rp, rt_, rl, rb, rr, rlb⟩ : I.Rg) :: ot) w W) → (W'.cell? ⟨ba, oa + k * 8, none⟩ = some (.int .i64 rk) ∧ W'.cell? ⟨ba, oa + k * 8 + 1, none⟩ = some (.int .i64 oi) ∧ W'.cell? ⟨ba, oa + k * 8 + 2, none⟩ = some (.int .i64 op) ∧ W'.cell? ⟨ba, oa + k * 8 + 3, none⟩ = some (.int .i64 ot_) ∧ W'.cell? ⟨ba, oa + k * 8 + 4, none⟩ = some (.int .i64 ol) ∧ W'.cell? ⟨ba, oa + k * 8 + 5, none⟩ = some (.int .i64 ob) ∧ W'.cell? ⟨ba, oa + k * 8 + 6, none⟩ = some (.int .i64 or_) ∧ W'.cell? ⟨ba, oa + k * 8 + 7, none⟩ = some (.string olb) ∧ W'.cell? ⟨N, 0, none⟩ = some (.int .i64 rk) ∧ W'.cell? ⟨N, 1, none⟩ = some (.int .i64 ri) ∧ W'.cell? ⟨N, 2, none⟩ = some (.int .i64 rp) ∧ W'.cell? ⟨N, 3, none⟩ = some (.int .i64 rt_) ∧ W'.cell? ⟨N, 4, none⟩ = some (.int .i64 rl) ∧ W'.cell? ⟨N, 5, none⟩ = some (.int .i64 rb) ∧ W'.cell? ⟨N, 6, none⟩ = some (.int .i64 rr) ∧ W'.cell? ⟨N, 7, none⟩ = some (.string rlb) ∧ W'.cell? ⟨X, 0, none⟩ = some (.int .i64 rk) ∧ W'.cell? ⟨X, 1, none⟩ = some (.int .i64 ri) ∧ W'.cell? ⟨X, 2, none⟩ = some (.int .i64 rp) ∧ W'.cell? ⟨X, 3, none⟩ = some (.int .i64 T) ∧ W'.cell? ⟨X, 4, none⟩ = some (.int .i64 L) ∧ W'.cell? ⟨X, 5, none⟩ = some (.int .i64 Bo) ∧ W'.cell? ⟨X, 6, none⟩ = some (.int .i64 R) ∧ W'.cell? ⟨X, 7, none⟩ = some (.string rlb) ∧ I.Mv N X S nl (⟨rk, ri, rp, rt_, rl, rb, rr, rlb⟩ : I.Rg) (⟨rk, ri, rp, T, L, Bo, R, rlb⟩ : I.Rg) (.slice (some ⟨g, 0, none⟩) nl cg) ((⟨rk, 0, rp, rt_, rl, rb, rr, rlb⟩ : I.Rg) :: ot) w W')) := Lib.hid (fun W W' h => by
            rintro ⟨z0, z1, z2, z3, z4, z5, z6, z7, x0, x1, x2, x3, x4, x5, x6, x7, y0, y1, y2, y3, y4, y5, y6, y7, mv⟩
            have hN := mv.le
            have hN2 := mv.xl
            have kp := fun b o (hb : b < W.heap.size) => h.cell (p := ⟨b, o, none⟩) hb
            exact ⟨(kp _ _ (by omega)).trans z0, (kp _ _ (by omega)).trans z1, (kp _ _ (by omega)).trans z2, (kp _ _ (by omega)).trans z3, (kp _ _ (by omega)).trans z4, (kp _ _ (by omega)).trans z5, (kp _ _ (by omega)).trans z6, (kp _ _ (by omega)).trans z7, (kp _ _ (by omega)).trans x0, (kp _ _ (by omega)).trans x1, (kp _ _ (by omega)).trans x2, (kp _ _ (by omega)).trans x3, (kp _ _ (by omega)).trans x4, (kp _ _ (by omega)).trans x5, (kp _ _ (by omega)).trans x6, (kp _ _ (by omega)).trans x7, (kp _ _ (by omega)).trans y0, (kp _ _ (by omega)).trans y1, (kp _ _ (by omega)).trans y2, (kp _ _ (by omega)).trans y3, (kp _ _ (by omega)).trans y4, (kp _ _ (by omega)).trans y5, (kp _ _ (by omega)).trans y6, (kp _ _ (by omega)).trans y7, mv.below h⟩)
          have S0 : Hid (wr.cell? ⟨ba, oa + k * 8, none⟩ = some (.int .i64 rk) ∧ wr.cell? ⟨ba, oa + k * 8 + 1, none⟩ = some (.int .i64 oi) ∧ wr.cell? ⟨ba, oa + k * 8 + 2, none⟩ = some (.int .i64 op) ∧ wr.cell? ⟨ba, oa + k * 8 + 3, none⟩ = some (.int .i64 ot_) ∧ wr.cell? ⟨ba, oa + k * 8 + 4, none⟩ = some (.int .i64 ol) ∧ wr.cell? ⟨ba, oa + k * 8 + 5, none⟩ = some (.int .i64 ob) ∧ wr.cell? ⟨ba, oa + k * 8 + 6, none⟩ = some (.int .i64 or_) ∧ wr.cell? ⟨ba, oa + k * 8 + 7, none⟩ = some (.string olb) ∧ wr.cell? ⟨N, 0, none⟩ = some (.int .i64 rk) ∧ wr.cell? ⟨N, 1, none⟩ = some (.int .i64 ri) ∧ wr.cell? ⟨N, 2, none⟩ = some (.int .i64 rp) ∧ wr.cell? ⟨N, 3, none⟩ = some (.int .i64 rt_) ∧ wr.cell? ⟨N, 4, none⟩ = some (.int .i64 rl) ∧ wr.cell? ⟨N, 5, none⟩ = some (.int .i64 rb) ∧ wr.cell? ⟨N, 6, none⟩ = some (.int .i64 rr) ∧ wr.cell? ⟨N, 7, none⟩ = some (.string rlb) ∧ wr.cell? ⟨X, 0, none⟩ = some (.int .i64 rk) ∧ wr.cell? ⟨X, 1, none⟩ = some (.int .i64 ri) ∧ wr.cell? ⟨X, 2, none⟩ = some (.int .i64 rp) ∧ wr.cell? ⟨X, 3, none⟩ = some (.int .i64 T) ∧ wr.cell? ⟨X, 4, none⟩ = some (.int .i64 L) ∧ wr.cell? ⟨X, 5, none⟩ = some (.int .i64 Bo) ∧ wr.cell? ⟨X, 6, none⟩ = some (.int .i64 R) ∧ wr.cell? ⟨X, 7, none⟩ = some (.string rlb) ∧ I.Mv N X S nl (⟨rk, ri, rp, rt_, rl, rb, rr, rlb⟩ : I.Rg) (⟨rk, ri, rp, T, L, Bo, R, rlb⟩ : I.Rg) (.slice (some ⟨g, 0, none⟩) nl cg) ((⟨rk, 0, rp, rt_, rl, rb, rr, rlb⟩ : I.Rg) :: ot) w wr) := Lib.hid ⟨z0, z1, z2, z3, z4, z5, z6, z7, x0, x1, x2, x3, x4, x5, x6, x7, y0, y1, y2, y3, y4, y5, y6, y7, hmv.out⟩
          have L1 : Hid (∀ w1, (w1.cell? ⟨ba, oa + k * 8, none⟩ = some (.int .i64 rk) ∧ w1.cell? ⟨ba, oa + k * 8 + 1, none⟩ = some (.int .i64 oi) ∧ w1.cell? ⟨ba, oa + k * 8 + 2, none⟩ = some (.int .i64 op) ∧ w1.cell? ⟨ba, oa + k * 8 + 3, none⟩ = some (.int .i64 ot_) ∧ w1.cell? ⟨ba, oa + k * 8 + 4, none⟩ = some (.int .i64 ol) ∧ w1.cell? ⟨ba, oa + k * 8 + 5, none⟩ = some (.int .i64 ob) ∧ w1.cell? ⟨ba, oa + k * 8 + 6, none⟩ = some (.int .i64 or_) ∧ w1.cell? ⟨ba, oa + k * 8 + 7, none⟩ = some (.string olb) ∧ w1.cell? ⟨N, 0, none⟩ = some (.int .i64 rk) ∧ w1.cell? ⟨N, 1, none⟩ = some (.int .i64 ri) ∧ w1.cell? ⟨N, 2, none⟩ = some (.int .i64 rp) ∧ w1.cell? ⟨N, 3, none⟩ = some (.int .i64 rt_) ∧ w1.cell? ⟨N, 4, none⟩ = some (.int .i64 rl) ∧ w1.cell? ⟨N, 5, none⟩ = some (.int .i64 rb) ∧ w1.cell? ⟨N, 6, none⟩ = some (.int .i64 rr) ∧ w1.cell? ⟨N, 7, none⟩ = some (.string rlb) ∧ w1.cell? ⟨X, 0, none⟩ = some (.int .i64 rk) ∧ w1.cell? ⟨X, 1, none⟩ = some (.int .i64 ri) ∧ w1.cell? ⟨X, 2, none⟩ = some (.int .i64 rp) ∧ w1.cell? ⟨X, 3, none⟩ = some (.int .i64 T) ∧ w1.cell? ⟨X, 4, none⟩ = some (.int .i64 L) ∧ w1.cell? ⟨X, 5, none⟩ = some (.int .i64 Bo) ∧ w1.cell? ⟨X, 6, none⟩ = some (.int .i64 R) ∧ w1.cell? ⟨X, 7, none⟩ = some (.string rlb) ∧ I.Mv N X S nl (⟨rk, ri, rp, rt_, rl, rb, rr, rlb⟩ : I.Rg) (⟨rk, ri, rp, T, L, Bo, R, rlb⟩ : I.Rg) (.slice (some ⟨g, 0, none⟩) nl cg) ((⟨rk, 0, rp, rt_, rl, rb, rr, rlb⟩ : I.Rg) :: ot) w w1) → Calls Try.prog 15 #[(⟨rk, oi, op, ot_, ol, ob, or_, olb⟩ : I.Rg).val, (⟨rk, ri, rp, rt_, rl, rb, rr, rlb⟩ : I.Rg).val] w1 fun e w' => e = .returned (.int .i64 (I.like (⟨rk, oi, op, ot_, ol, ob, or_, olb⟩ : I.Rg) (⟨rk, ri, rp, rt_, rl, rb, rr, rlb⟩ : I.Rg))) ∧ (w'.cell? ⟨ba, oa + k * 8, none⟩ = some (.int .i64 rk) ∧ w'.cell? ⟨ba, oa + k * 8 + 1, none⟩ = some (.int .i64 oi) ∧ w'.cell? ⟨ba, oa + k * 8 + 2, none⟩ = some (.int .i64 op) ∧ w'.cell? ⟨ba, oa + k * 8 + 3, none⟩ = some (.int .i64 ot_) ∧ w'.cell? ⟨ba, oa + k * 8 + 4, none⟩ = some (.int .i64 ol) ∧ w'.cell? ⟨ba, oa + k * 8 + 5, none⟩ = some (.int .i64 ob) ∧ w'.cell? ⟨ba, oa + k * 8 + 6, none⟩ = some (.int .i64 or_) ∧ w'.cell? ⟨ba, oa + k * 8 + 7, none⟩ = some (.string olb) ∧ w'.cell? ⟨N, 0, none⟩ = some (.int .i64 rk) ∧ w'.cell? ⟨N, 1, none⟩ = some (.int .i64 ri) ∧ w'.cell? ⟨N, 2, none⟩ = some (.int .i64 rp) ∧ w'.cell? ⟨N, 3, none⟩ = some (.int .i64 rt_) ∧ w'.cell? ⟨N, 4, none⟩ = some (.int .i64 rl) ∧ w'.cell? ⟨N, 5, none⟩ = some (.int .i64 rb) ∧ w'.cell? ⟨N, 6, none⟩ = some (.int .i64 rr) ∧ w'.cell? ⟨N, 7, none⟩ = some (.string rlb) ∧ w'.cell? ⟨X, 0, none⟩ = some (.int .i64 rk) ∧ w'.cell? ⟨X, 1, none⟩ = some (.int .i64 ri) ∧ w'.cell? ⟨X, 2, none⟩ = some (.int .i64 rp) ∧ w'.cell? ⟨X, 3, none⟩ = some (.int .i64 T) ∧ w'.cell? ⟨X, 4, none⟩ = some (.int .i64 L) ∧ w'.cell? ⟨X, 5, none⟩ = some (.int .i64 Bo) ∧ w'.cell? ⟨X, 6, none⟩ = some (.int .i64 R) ∧ w'.cell? ⟨X, 7, none⟩ = some (.string rlb) ∧ I.Mv N X S nl (⟨rk, ri, rp, rt_, rl, rb, rr, rlb⟩ : I.Rg) (⟨rk, ri, rp, T, L, Bo, R, rlb⟩ : I.Rg) (.slice (some ⟨g, 0, none⟩) nl cg) ((⟨rk, 0, rp, rt_, rl, rb, rr, rlb⟩ : I.Rg) :: ot) w w')) := Lib.hid (fun w1 h => by
            refine (reflike_any _ _ w1).mono ?_
            rintro e w' ⟨rfl, b⟩
            exact ⟨rfl, SK.out _ _ b h⟩)
          have L2 : Hid (∀ w1, (w1.cell? ⟨ba, oa + k * 8, none⟩ = some (.int .i64 rk) ∧ w1.cell? ⟨ba, oa + k * 8 + 1, none⟩ = some (.int .i64 oi) ∧ w1.cell? ⟨ba, oa + k * 8 + 2, none⟩ = some (.int .i64 op) ∧ w1.cell? ⟨ba, oa + k * 8 + 3, none⟩ = some (.int .i64 ot_) ∧ w1.cell? ⟨ba, oa + k * 8 + 4, none⟩ = some (.int .i64 ol) ∧ w1.cell? ⟨ba, oa + k * 8 + 5, none⟩ = some (.int .i64 ob) ∧ w1.cell? ⟨ba, oa + k * 8 + 6, none⟩ = some (.int .i64 or_) ∧ w1.cell? ⟨ba, oa + k * 8 + 7, none⟩ = some (.string olb) ∧ w1.cell? ⟨N, 0, none⟩ = some (.int .i64 rk) ∧ w1.cell? ⟨N, 1, none⟩ = some (.int .i64 ri) ∧ w1.cell? ⟨N, 2, none⟩ = some (.int .i64 rp) ∧ w1.cell? ⟨N, 3, none⟩ = some (.int .i64 rt_) ∧ w1.cell? ⟨N, 4, none⟩ = some (.int .i64 rl) ∧ w1.cell? ⟨N, 5, none⟩ = some (.int .i64 rb) ∧ w1.cell? ⟨N, 6, none⟩ = some (.int .i64 rr) ∧ w1.cell? ⟨N, 7, none⟩ = some (.string rlb) ∧ w1.cell? ⟨X, 0, none⟩ = some (.int .i64 rk) ∧ w1.cell? ⟨X, 1, none⟩ = some (.int .i64 ri) ∧ w1.cell? ⟨X, 2, none⟩ = some (.int .i64 rp) ∧ w1.cell? ⟨X, 3, none⟩ = some (.int .i64 T) ∧ w1.cell? ⟨X, 4, none⟩ = some (.int .i64 L) ∧ w1.cell? ⟨X, 5, none⟩ = some (.int .i64 Bo) ∧ w1.cell? ⟨X, 6, none⟩ = some (.int .i64 R) ∧ w1.cell? ⟨X, 7, none⟩ = some (.string rlb) ∧ I.Mv N X S nl (⟨rk, ri, rp, rt_, rl, rb, rr, rlb⟩ : I.Rg) (⟨rk, ri, rp, T, L, Bo, R, rlb⟩ : I.Rg) (.slice (some ⟨g, 0, none⟩) nl cg) ((⟨rk, 0, rp, rt_, rl, rb, rr, rlb⟩ : I.Rg) :: ot) w w1) → Calls Try.prog 15 #[(⟨rk, oi, op, ot_, ol, ob, or_, olb⟩ : I.Rg).val, (⟨rk, ri, rp, T, L, Bo, R, rlb⟩ : I.Rg).val] w1 fun e w' => e = .returned (.int .i64 (I.like (⟨rk, oi, op, ot_, ol, ob, or_, olb⟩ : I.Rg) (⟨rk, ri, rp, T, L, Bo, R, rlb⟩ : I.Rg))) ∧ (w'.cell? ⟨ba, oa + k * 8, none⟩ = some (.int .i64 rk) ∧ w'.cell? ⟨ba, oa + k * 8 + 1, none⟩ = some (.int .i64 oi) ∧ w'.cell? ⟨ba, oa + k * 8 + 2, none⟩ = some (.int .i64 op) ∧ w'.cell? ⟨ba, oa + k * 8 + 3, none⟩ = some (.int .i64 ot_) ∧ w'.cell? ⟨ba, oa + k * 8 + 4, none⟩ = some (.int .i64 ol) ∧ w'.cell? ⟨ba, oa + k * 8 + 5, none⟩ = some (.int .i64 ob) ∧ w'.cell? ⟨ba, oa + k * 8 + 6, none⟩ = some (.int .i64 or_) ∧ w'.cell? ⟨ba, oa + k * 8 + 7, none⟩ = some (.string olb) ∧ w'.cell? ⟨N, 0, none⟩ = some (.int .i64 rk) ∧ w'.cell? ⟨N, 1, none⟩ = some (.int .i64 ri) ∧ w'.cell? ⟨N, 2, none⟩ = some (.int .i64 rp) ∧ w'.cell? ⟨N, 3, none⟩ = some (.int .i64 rt_) ∧ w'.cell? ⟨N, 4, none⟩ = some (.int .i64 rl) ∧ w'.cell? ⟨N, 5, none⟩ = some (.int .i64 rb) ∧ w'.cell? ⟨N, 6, none⟩ = some (.int .i64 rr) ∧ w'.cell? ⟨N, 7, none⟩ = some (.string rlb) ∧ w'.cell? ⟨X, 0, none⟩ = some (.int .i64 rk) ∧ w'.cell? ⟨X, 1, none⟩ = some (.int .i64 ri) ∧ w'.cell? ⟨X, 2, none⟩ = some (.int .i64 rp) ∧ w'.cell? ⟨X, 3, none⟩ = some (.int .i64 T) ∧ w'.cell? ⟨X, 4, none⟩ = some (.int .i64 L) ∧ w'.cell? ⟨X, 5, none⟩ = some (.int .i64 Bo) ∧ w'.cell? ⟨X, 6, none⟩ = some (.int .i64 R) ∧ w'.cell? ⟨X, 7, none⟩ = some (.string rlb) ∧ I.Mv N X S nl (⟨rk, ri, rp, rt_, rl, rb, rr, rlb⟩ : I.Rg) (⟨rk, ri, rp, T, L, Bo, R, rlb⟩ : I.Rg) (.slice (some ⟨g, 0, none⟩) nl cg) ((⟨rk, 0, rp, rt_, rl, rb, rr, rlb⟩ : I.Rg) :: ot) w w')) := Lib.hid (fun w1 h => by
            refine (reflike_any _ _ w1).mono ?_
            rintro e w' ⟨rfl, b⟩
            exact ⟨rfl, SK.out _ _ b h⟩)
          have V1 : Hid (∀ w1, (w1.cell? ⟨ba, oa + k * 8, none⟩ = some (.int .i64 rk) ∧ w1.cell? ⟨ba, oa + k * 8 + 1, none⟩ = some (.int .i64 oi) ∧ w1.cell? ⟨ba, oa + k * 8 + 2, none⟩ = some (.int .i64 op) ∧ w1.cell? ⟨ba, oa + k * 8 + 3, none⟩ = some (.int .i64 ot_) ∧ w1.cell? ⟨ba, oa + k * 8 + 4, none⟩ = some (.int .i64 ol) ∧ w1.cell? ⟨ba, oa + k * 8 + 5, none⟩ = some (.int .i64 ob) ∧ w1.cell? ⟨ba, oa + k * 8 + 6, none⟩ = some (.int .i64 or_) ∧ w1.cell? ⟨ba, oa + k * 8 + 7, none⟩ = some (.string olb) ∧ w1.cell? ⟨N, 0, none⟩ = some (.int .i64 rk) ∧ w1.cell? ⟨N, 1, none⟩ = some (.int .i64 ri) ∧ w1.cell? ⟨N, 2, none⟩ = some (.int .i64 rp) ∧ w1.cell? ⟨N, 3, none⟩ = some (.int .i64 rt_) ∧ w1.cell? ⟨N, 4, none⟩ = some (.int .i64 rl) ∧ w1.cell? ⟨N, 5, none⟩ = some (.int .i64 rb) ∧ w1.cell? ⟨N, 6, none⟩ = some (.int .i64 rr) ∧ w1.cell? ⟨N, 7, none⟩ = some (.string rlb) ∧ w1.cell? ⟨X, 0, none⟩ = some (.int .i64 rk) ∧ w1.cell? ⟨X, 1, none⟩ = some (.int .i64 ri) ∧ w1.cell? ⟨X, 2, none⟩ = some (.int .i64 rp) ∧ w1.cell? ⟨X, 3, none⟩ = some (.int .i64 T) ∧ w1.cell? ⟨X, 4, none⟩ = some (.int .i64 L) ∧ w1.cell? ⟨X, 5, none⟩ = some (.int .i64 Bo) ∧ w1.cell? ⟨X, 6, none⟩ = some (.int .i64 R) ∧ w1.cell? ⟨X, 7, none⟩ = some (.string rlb) ∧ I.Mv N X S nl (⟨rk, ri, rp, rt_, rl, rb, rr, rlb⟩ : I.Rg) (⟨rk, ri, rp, T, L, Bo, R, rlb⟩ : I.Rg) (.slice (some ⟨g, 0, none⟩) nl cg) ((⟨rk, 0, rp, rt_, rl, rb, rr, rlb⟩ : I.Rg) :: ot) w w1) → Calls Try.prog 22 #[(⟨rk, oi, op, ot_, ol, ob, or_, olb⟩ : I.Rg).val, (⟨rk, ri, rp, rt_, rl, rb, rr, rlb⟩ : I.Rg).val] w1 fun e w' => e = .returned (.bool (I.over (⟨rk, oi, op, ot_, ol, ob, or_, olb⟩ : I.Rg) (⟨rk, ri, rp, rt_, rl, rb, rr, rlb⟩ : I.Rg))) ∧ (w'.cell? ⟨ba, oa + k * 8, none⟩ = some (.int .i64 rk) ∧ w'.cell? ⟨ba, oa + k * 8 + 1, none⟩ = some (.int .i64 oi) ∧ w'.cell? ⟨ba, oa + k * 8 + 2, none⟩ = some (.int .i64 op) ∧ w'.cell? ⟨ba, oa + k * 8 + 3, none⟩ = some (.int .i64 ot_) ∧ w'.cell? ⟨ba, oa + k * 8 + 4, none⟩ = some (.int .i64 ol) ∧ w'.cell? ⟨ba, oa + k * 8 + 5, none⟩ = some (.int .i64 ob) ∧ w'.cell? ⟨ba, oa + k * 8 + 6, none⟩ = some (.int .i64 or_) ∧ w'.cell? ⟨ba, oa + k * 8 + 7, none⟩ = some (.string olb) ∧ w'.cell? ⟨N, 0, none⟩ = some (.int .i64 rk) ∧ w'.cell? ⟨N, 1, none⟩ = some (.int .i64 ri) ∧ w'.cell? ⟨N, 2, none⟩ = some (.int .i64 rp) ∧ w'.cell? ⟨N, 3, none⟩ = some (.int .i64 rt_) ∧ w'.cell? ⟨N, 4, none⟩ = some (.int .i64 rl) ∧ w'.cell? ⟨N, 5, none⟩ = some (.int .i64 rb) ∧ w'.cell? ⟨N, 6, none⟩ = some (.int .i64 rr) ∧ w'.cell? ⟨N, 7, none⟩ = some (.string rlb) ∧ w'.cell? ⟨X, 0, none⟩ = some (.int .i64 rk) ∧ w'.cell? ⟨X, 1, none⟩ = some (.int .i64 ri) ∧ w'.cell? ⟨X, 2, none⟩ = some (.int .i64 rp) ∧ w'.cell? ⟨X, 3, none⟩ = some (.int .i64 T) ∧ w'.cell? ⟨X, 4, none⟩ = some (.int .i64 L) ∧ w'.cell? ⟨X, 5, none⟩ = some (.int .i64 Bo) ∧ w'.cell? ⟨X, 6, none⟩ = some (.int .i64 R) ∧ w'.cell? ⟨X, 7, none⟩ = some (.string rlb) ∧ I.Mv N X S nl (⟨rk, ri, rp, rt_, rl, rb, rr, rlb⟩ : I.Rg) (⟨rk, ri, rp, T, L, Bo, R, rlb⟩ : I.Rg) (.slice (some ⟨g, 0, none⟩) nl cg) ((⟨rk, 0, rp, rt_, rl, rb, rr, rlb⟩ : I.Rg) :: ot) w w')) := Lib.hid (fun w1 h => by
            refine (overlap_any _ _ w1).mono ?_
            rintro e w' ⟨rfl, b⟩
            exact ⟨rfl, SK.out _ _ b h⟩)
          have V2 : Hid (∀ w1, (w1.cell? ⟨ba, oa + k * 8, none⟩ = some (.int .i64 rk) ∧ w1.cell? ⟨ba, oa + k * 8 + 1, none⟩ = some (.int .i64 oi) ∧ w1.cell? ⟨ba, oa + k * 8 + 2, none⟩ = some (.int .i64 op) ∧ w1.cell? ⟨ba, oa + k * 8 + 3, none⟩ = some (.int .i64 ot_) ∧ w1.cell? ⟨ba, oa + k * 8 + 4, none⟩ = some (.int .i64 ol) ∧ w1.cell? ⟨ba, oa + k * 8 + 5, none⟩ = some (.int .i64 ob) ∧ w1.cell? ⟨ba, oa + k * 8 + 6, none⟩ = some (.int .i64 or_) ∧ w1.cell? ⟨ba, oa + k * 8 + 7, none⟩ = some (.string olb) ∧ w1.cell? ⟨N, 0, none⟩ = some (.int .i64 rk) ∧ w1.cell? ⟨N, 1, none⟩ = some (.int .i64 ri) ∧ w1.cell? ⟨N, 2, none⟩ = some (.int .i64 rp) ∧ w1.cell? ⟨N, 3, none⟩ = some (.int .i64 rt_) ∧ w1.cell? ⟨N, 4, none⟩ = some (.int .i64 rl) ∧ w1.cell? ⟨N, 5, none⟩ = some (.int .i64 rb) ∧ w1.cell? ⟨N, 6, none⟩ = some (.int .i64 rr) ∧ w1.cell? ⟨N, 7, none⟩ = some (.string rlb) ∧ w1.cell? ⟨X, 0, none⟩ = some (.int .i64 rk) ∧ w1.cell? ⟨X, 1, none⟩ = some (.int .i64 ri) ∧ w1.cell? ⟨X, 2, none⟩ = some (.int .i64 rp) ∧ w1.cell? ⟨X, 3, none⟩ = some (.int .i64 T) ∧ w1.cell? ⟨X, 4, none⟩ = some (.int .i64 L) ∧ w1.cell? ⟨X, 5, none⟩ = some (.int .i64 Bo) ∧ w1.cell? ⟨X, 6, none⟩ = some (.int .i64 R) ∧ w1.cell? ⟨X, 7, none⟩ = some (.string rlb) ∧ I.Mv N X S nl (⟨rk, ri, rp, rt_, rl, rb, rr, rlb⟩ : I.Rg) (⟨rk, ri, rp, T, L, Bo, R, rlb⟩ : I.Rg) (.slice (some ⟨g, 0, none⟩) nl cg) ((⟨rk, 0, rp, rt_, rl, rb, rr, rlb⟩ : I.Rg) :: ot) w w1) → Calls Try.prog 22 #[(⟨rk, oi, op, ot_, ol, ob, or_, olb⟩ : I.Rg).val, (⟨rk, ri, rp, T, L, Bo, R, rlb⟩ : I.Rg).val] w1 fun e w' => e = .returned (.bool (I.over (⟨rk, oi, op, ot_, ol, ob, or_, olb⟩ : I.Rg) (⟨rk, ri, rp, T, L, Bo, R, rlb⟩ : I.Rg))) ∧ (w'.cell? ⟨ba, oa + k * 8, none⟩ = some (.int .i64 rk) ∧ w'.cell? ⟨ba, oa + k * 8 + 1, none⟩ = some (.int .i64 oi) ∧ w'.cell? ⟨ba, oa + k * 8 + 2, none⟩ = some (.int .i64 op) ∧ w'.cell? ⟨ba, oa + k * 8 + 3, none⟩ = some (.int .i64 ot_) ∧ w'.cell? ⟨ba, oa + k * 8 + 4, none⟩ = some (.int .i64 ol) ∧ w'.cell? ⟨ba, oa + k * 8 + 5, none⟩ = some (.int .i64 ob) ∧ w'.cell? ⟨ba, oa + k * 8 + 6, none⟩ = some (.int .i64 or_) ∧ w'.cell? ⟨ba, oa + k * 8 + 7, none⟩ = some (.string olb) ∧ w'.cell? ⟨N, 0, none⟩ = some (.int .i64 rk) ∧ w'.cell? ⟨N, 1, none⟩ = some (.int .i64 ri) ∧ w'.cell? ⟨N, 2, none⟩ = some (.int .i64 rp) ∧ w'.cell? ⟨N, 3, none⟩ = some (.int .i64 rt_) ∧ w'.cell? ⟨N, 4, none⟩ = some (.int .i64 rl) ∧ w'.cell? ⟨N, 5, none⟩ = some (.int .i64 rb) ∧ w'.cell? ⟨N, 6, none⟩ = some (.int .i64 rr) ∧ w'.cell? ⟨N, 7, none⟩ = some (.string rlb) ∧ w'.cell? ⟨X, 0, none⟩ = some (.int .i64 rk) ∧ w'.cell? ⟨X, 1, none⟩ = some (.int .i64 ri) ∧ w'.cell? ⟨X, 2, none⟩ = some (.int .i64 rp) ∧ w'.cell? ⟨X, 3, none⟩ = some (.int .i64 T) ∧ w'.cell? ⟨X, 4, none⟩ = some (.int .i64 L) ∧ w'.cell? ⟨X, 5, none⟩ = some (.int .i64 Bo) ∧ w'.cell? ⟨X, 6, none⟩ = some (.int .i64 R) ∧ w'.cell? ⟨X, 7, none⟩ = some (.string rlb) ∧ I.Mv N X S nl (⟨rk, ri, rp, rt_, rl, rb, rr, rlb⟩ : I.Rg) (⟨rk, ri, rp, T, L, Bo, R, rlb⟩ : I.Rg) (.slice (some ⟨g, 0, none⟩) nl cg) ((⟨rk, 0, rp, rt_, rl, rb, rr, rlb⟩ : I.Rg) :: ot) w w')) := Lib.hid (fun w1 h => by
            refine (overlap_any _ _ w1).mono ?_
            rintro e w' ⟨rfl, b⟩
            exact ⟨rfl, SK.out _ _ b h⟩)
          have S1 : Hid (wr.drew.cell? ⟨ba, oa + k * 8, none⟩ = some (.int .i64 rk) ∧ wr.drew.cell? ⟨ba, oa + k * 8 + 1, none⟩ = some (.int .i64 oi) ∧ wr.drew.cell? ⟨ba, oa + k * 8 + 2, none⟩ = some (.int .i64 op) ∧ wr.drew.cell? ⟨ba, oa + k * 8 + 3, none⟩ = some (.int .i64 ot_) ∧ wr.drew.cell? ⟨ba, oa + k * 8 + 4, none⟩ = some (.int .i64 ol) ∧ wr.drew.cell? ⟨ba, oa + k * 8 + 5, none⟩ = some (.int .i64 ob) ∧ wr.drew.cell? ⟨ba, oa + k * 8 + 6, none⟩ = some (.int .i64 or_) ∧ wr.drew.cell? ⟨ba, oa + k * 8 + 7, none⟩ = some (.string olb) ∧ wr.drew.cell? ⟨N, 0, none⟩ = some (.int .i64 rk) ∧ wr.drew.cell? ⟨N, 1, none⟩ = some (.int .i64 ri) ∧ wr.drew.cell? ⟨N, 2, none⟩ = some (.int .i64 rp) ∧ wr.drew.cell? ⟨N, 3, none⟩ = some (.int .i64 rt_) ∧ wr.drew.cell? ⟨N, 4, none⟩ = some (.int .i64 rl) ∧ wr.drew.cell? ⟨N, 5, none⟩ = some (.int .i64 rb) ∧ wr.drew.cell? ⟨N, 6, none⟩ = some (.int .i64 rr) ∧ wr.drew.cell? ⟨N, 7, none⟩ = some (.string rlb) ∧ wr.drew.cell? ⟨X, 0, none⟩ = some (.int .i64 rk) ∧ wr.drew.cell? ⟨X, 1, none⟩ = some (.int .i64 ri) ∧ wr.drew.cell? ⟨X, 2, none⟩ = some (.int .i64 rp) ∧ wr.drew.cell? ⟨X, 3, none⟩ = some (.int .i64 T) ∧ wr.drew.cell? ⟨X, 4, none⟩ = some (.int .i64 L) ∧ wr.drew.cell? ⟨X, 5, none⟩ = some (.int .i64 Bo) ∧ wr.drew.cell? ⟨X, 6, none⟩ = some (.int .i64 R) ∧ wr.drew.cell? ⟨X, 7, none⟩ = some (.string rlb) ∧ I.Mv N X S nl (⟨rk, ri, rp, rt_, rl, rb, rr, rlb⟩ : I.Rg) (⟨rk, ri, rp, T, L, Bo, R, rlb⟩ : I.Rg) (.slice (some ⟨g, 0, none⟩) nl cg) ((⟨rk, 0, rp, rt_, rl, rb, rr, rlb⟩ : I.Rg) :: ot) w wr.drew) := Lib.hid (SK.out _ _ ((Below.refl _ _).drew) S0.out)
          obtain ⟨v1, hv1⟩ : ∃ v1, I.like (⟨rk, oi, op, ot_, ol, ob, or_, olb⟩ : I.Rg) (⟨rk, ri, rp, rt_, rl, rb, rr, rlb⟩ : I.Rg) = v1 := ⟨_, rfl⟩
          obtain ⟨v2, hv2⟩ : ∃ v2, I.like (⟨rk, oi, op, ot_, ol, ob, or_, olb⟩ : I.Rg) (⟨rk, ri, rp, T, L, Bo, R, rlb⟩ : I.Rg) = v2 := ⟨_, rfl⟩
          obtain ⟨v3, hv3⟩ : ∃ v3, I.over (⟨rk, oi, op, ot_, ol, ob, or_, olb⟩ : I.Rg) (⟨rk, ri, rp, rt_, rl, rb, rr, rlb⟩ : I.Rg) = v3 := ⟨_, rfl⟩
          obtain ⟨v4, hv4⟩ : ∃ v4, I.over (⟨rk, oi, op, ot_, ol, ob, or_, olb⟩ : I.Rg) (⟨rk, ri, rp, T, L, Bo, R, rlb⟩ : I.Rg) = v4 := ⟨_, rfl⟩
          rw [hv1] at L1
          rw [hv2] at L2
          rw [hv3] at V1
          rw [hv4] at V2
          have HV1 := Lib.hid hv1
          have HV2 := Lib.hid hv2
          clear hv1 hv2 hv3 hv4 hlab
          obtain ⟨lb, hlb⟩ : ∃ lb, (olb.toList == rlb.toList) = lb := ⟨_, rfl⟩
          simp only [I.Rg.val, I.Rg.cells] at L1 L2 V1 V2
          obtain ⟨z0, z1, z2, z3, z4, z5, z6, z7, x0, x1, x2, x3, x4, x5, x6, x7, y0, y1, y2, y3, y4, y5, y6, y7, mv⟩ := S0.out
          clear z0 z1 z2 z3 z4 z5 z6 z7 x0 x1 x2 x3 x4 x5 x6 x7 y0 y1 y2 y3 y4 y5 y6 y7 mv
          by_cases g1 : 100 < v1
          · have h1 : decide (100 < v1) = true := decide_eq_true g1
            as_aux_lemma =>
              go_wp2_with fail
              refine wp_region_held_drew (S := fun w' => w'.cell? ⟨ba, oa + k * 8, none⟩ = some (.int .i64 rk) ∧ w'.cell? ⟨ba, oa + k * 8 + 1, none⟩ = some (.int .i64 oi) ∧ w'.cell? ⟨ba, oa + k * 8 + 2, none⟩ = some (.int .i64 op) ∧ w'.cell? ⟨ba, oa + k * 8 + 3, none⟩ = some (.int .i64 ot_) ∧ w'.cell? ⟨ba, oa + k * 8 + 4, none⟩ = some (.int .i64 ol) ∧ w'.cell? ⟨ba, oa + k * 8 + 5, none⟩ = some (.int .i64 ob) ∧ w'.cell? ⟨ba, oa + k * 8 + 6, none⟩ = some (.int .i64 or_) ∧ w'.cell? ⟨ba, oa + k * 8 + 7, none⟩ = some (.string olb) ∧ w'.cell? ⟨N, 0, none⟩ = some (.int .i64 rk) ∧ w'.cell? ⟨N, 1, none⟩ = some (.int .i64 ri) ∧ w'.cell? ⟨N, 2, none⟩ = some (.int .i64 rp) ∧ w'.cell? ⟨N, 3, none⟩ = some (.int .i64 rt_) ∧ w'.cell? ⟨N, 4, none⟩ = some (.int .i64 rl) ∧ w'.cell? ⟨N, 5, none⟩ = some (.int .i64 rb) ∧ w'.cell? ⟨N, 6, none⟩ = some (.int .i64 rr) ∧ w'.cell? ⟨N, 7, none⟩ = some (.string rlb) ∧ w'.cell? ⟨X, 0, none⟩ = some (.int .i64 rk) ∧ w'.cell? ⟨X, 1, none⟩ = some (.int .i64 ri) ∧ w'.cell? ⟨X, 2, none⟩ = some (.int .i64 rp) ∧ w'.cell? ⟨X, 3, none⟩ = some (.int .i64 T) ∧ w'.cell? ⟨X, 4, none⟩ = some (.int .i64 L) ∧ w'.cell? ⟨X, 5, none⟩ = some (.int .i64 Bo) ∧ w'.cell? ⟨X, 6, none⟩ = some (.int .i64 R) ∧ w'.cell? ⟨X, 7, none⟩ = some (.string rlb) ∧ I.Mv N X S nl (⟨rk, ri, rp, rt_, rl, rb, rr, rlb⟩ : I.Rg) (⟨rk, ri, rp, T, L, Bo, R, rlb⟩ : I.Rg) (.slice (some ⟨g, 0, none⟩) nl cg) ((⟨rk, 0, rp, rt_, rl, rb, rr, rlb⟩ : I.Rg) :: ot) w w') (by kernel_rfl) S1.out (fun hHeld => ?_)
              refine wpAnyH_take (i := 0) (v := ?_) rfl (by kernel_rfl) (by kernel_rfl) (by kernel_rfl) (fun _ _ _ h => h) (Or.inl ⟨by rfl, ?_⟩) (by assumption) ?_
              rotate_left 1
              · (intro w hSw; (try dsimp only at hSw); (try simp only [List.getElem_toArray, List.getElem_cons_succ, List.getElem_cons_zero]); go_simp) <;> (with_reducible rfl)
              try simp only [List.getElem_toArray, List.getElem_cons_succ, List.getElem_cons_zero]
              try simp only [Act.put, List.setIfInBounds_toArray, List.set_cons_zero, List.set_cons_succ]
              refine wpAnyH_take (i := 1) (v := ?_) rfl (by kernel_rfl) (by kernel_rfl) (by kernel_rfl) (fun _ _ _ h => h) (Or.inl ⟨by rfl, ?_⟩) (by assumption) ?_
              rotate_left 1
              · (intro w hSw; (try dsimp only at hSw); (try simp only [List.getElem_toArray, List.getElem_cons_succ, List.getElem_cons_zero]); go_simp) <;> (with_reducible rfl)
              try simp only [List.getElem_toArray, List.getElem_cons_succ, List.getElem_cons_zero]
              try simp only [Act.put, List.setIfInBounds_toArray, List.set_cons_zero, List.set_cons_succ]
              refine wpAnyH_take (i := 2) (v := ?_) rfl (by kernel_rfl) (by kernel_rfl) (by kernel_rfl) (fun _ _ _ h => h) (Or.inl ⟨by rfl, ?_⟩) (by assumption) ?_
              rotate_left 1
              · (intro w hSw; (try dsimp only at hSw); (try simp only [List.getElem_toArray, List.getElem_cons_succ, List.getElem_cons_zero]); go_simp) <;> (with_reducible rfl)
              try simp only [List.getElem_toArray, List.getElem_cons_succ, List.getElem_cons_zero]
              try simp only [Act.put, List.setIfInBounds_toArray, List.set_cons_zero, List.set_cons_succ]
              refine wpAnyH_take (i := 3) (v := ?_) rfl (by kernel_rfl) (by kernel_rfl) (by kernel_rfl) (fun _ _ _ h => h) (Or.inl ⟨by rfl, ?_⟩) (by assumption) ?_
              rotate_left 1
              · (intro w hSw; (try dsimp only at hSw); (try simp only [List.getElem_toArray, List.getElem_cons_succ, List.getElem_cons_zero]); go_simp) <;> (with_reducible rfl)
              try simp only [List.getElem_toArray, List.getElem_cons_succ, List.getElem_cons_zero]
              try simp only [Act.put, List.setIfInBounds_toArray, List.set_cons_zero, List.set_cons_succ]
              refine wpAnyH_take (i := 4) (v := ?_) rfl (by kernel_rfl) (by kernel_rfl) (by kernel_rfl) (fun _ _ _ h => h) (Or.inl ⟨by rfl, ?_⟩) (by assumption) ?_
              rotate_left 1
              · (intro w hSw; (try dsimp only at hSw); (try simp only [List.getElem_toArray, List.getElem_cons_succ, List.getElem_cons_zero]); go_simp) <;> (with_reducible rfl)
              try simp only [List.getElem_toArray, List.getElem_cons_succ, List.getElem_cons_zero]
              try simp only [Act.put, List.setIfInBounds_toArray, List.set_cons_zero, List.set_cons_succ]
              refine wpAnyH_take (i := 5) (v := ?_) rfl (by kernel_rfl) (by kernel_rfl) (by kernel_rfl) (fun _ _ _ h => h) (Or.inl ⟨by rfl, ?_⟩) (by assumption) ?_
              rotate_left 1
              · (intro w hSw; (try dsimp only at hSw); (try simp only [List.getElem_toArray, List.getElem_cons_succ, List.getElem_cons_zero]); go_simp) <;> (with_reducible rfl)
              try simp only [List.getElem_toArray, List.getElem_cons_succ, List.getElem_cons_zero]
              try simp only [Act.put, List.setIfInBounds_toArray, List.set_cons_zero, List.set_cons_succ]
              refine wpAnyH_take (i := 6) (v := ?_) rfl (by kernel_rfl) (by kernel_rfl) (by kernel_rfl) (fun _ _ _ h => h) (Or.inl ⟨by rfl, ?_⟩) (by assumption) ?_
              rotate_left 1
              · (intro w hSw; (try dsimp only at hSw); (try simp only [List.getElem_toArray, List.getElem_cons_succ, List.getElem_cons_zero]); go_simp) <;> (with_reducible rfl)
              try simp only [List.getElem_toArray, List.getElem_cons_succ, List.getElem_cons_zero]
              try simp only [Act.put, List.setIfInBounds_toArray, List.set_cons_zero, List.set_cons_succ]
              refine wpAnyH_take (i := 7) (v := ?_) rfl (by kernel_rfl) (by kernel_rfl) (by kernel_rfl) (fun _ _ _ h => h) (Or.inl ⟨by rfl, ?_⟩) (by assumption) ?_
              rotate_left 1
              · (intro w hSw; (try dsimp only at hSw); (try simp only [List.getElem_toArray, List.getElem_cons_succ, List.getElem_cons_zero]); go_simp) <;> (with_reducible rfl)
              try simp only [List.getElem_toArray, List.getElem_cons_succ, List.getElem_cons_zero]
              try simp only [Act.put, List.setIfInBounds_toArray, List.set_cons_zero, List.set_cons_succ]
              refine wpAnyH_take (i := 8) (v := ?_) rfl (by kernel_rfl) (by kernel_rfl) (by kernel_rfl) (fun _ _ _ h => h) (Or.inl ⟨by rfl, ?_⟩) (by assumption) ?_
              rotate_left 1
              · (intro w hSw; (try dsimp only at hSw); (try simp only [List.getElem_toArray, List.getElem_cons_succ, List.getElem_cons_zero]); go_simp) <;> (with_reducible rfl)
              try simp only [List.getElem_toArray, List.getElem_cons_succ, List.getElem_cons_zero]
              try simp only [Act.put, List.setIfInBounds_toArray, List.set_cons_zero, List.set_cons_succ]
              refine wpAnyH_take (i := 9) (v := ?_) rfl (by kernel_rfl) (by kernel_rfl) (by kernel_rfl) (fun _ _ _ h => h) (Or.inl ⟨by rfl, ?_⟩) (by assumption) ?_
              rotate_left 1
              · (intro w hSw; (try dsimp only at hSw); (try simp only [List.getElem_toArray, List.getElem_cons_succ, List.getElem_cons_zero]); go_simp) <;> (with_reducible rfl)
              try simp only [List.getElem_toArray, List.getElem_cons_succ, List.getElem_cons_zero]
              try simp only [Act.put, List.setIfInBounds_toArray, List.set_cons_zero, List.set_cons_succ]
              refine wpAnyH_take (i := 10) (v := ?_) rfl (by kernel_rfl) (by kernel_rfl) (by kernel_rfl) (fun _ _ _ h => h) (Or.inl ⟨by rfl, ?_⟩) (by assumption) ?_
              rotate_left 1
              · (intro w hSw; (try dsimp only at hSw); (try simp only [List.getElem_toArray, List.getElem_cons_succ, List.getElem_cons_zero]); go_simp) <;> (with_reducible rfl)
              try simp only [List.getElem_toArray, List.getElem_cons_succ, List.getElem_cons_zero]
              try simp only [Act.put, List.setIfInBounds_toArray, List.set_cons_zero, List.set_cons_succ]
              refine wpAnyH_take (i := 11) (v := ?_) rfl (by kernel_rfl) (by kernel_rfl) (by kernel_rfl) (fun _ _ _ h => h) (Or.inl ⟨by rfl, ?_⟩) (by assumption) ?_
              rotate_left 1
              · (intro w hSw; (try dsimp only at hSw); (try simp only [List.getElem_toArray, List.getElem_cons_succ, List.getElem_cons_zero]); go_simp) <;> (with_reducible rfl)
              try simp only [List.getElem_toArray, List.getElem_cons_succ, List.getElem_cons_zero]
              try simp only [Act.put, List.setIfInBounds_toArray, List.set_cons_zero, List.set_cons_succ]
              refine wpAnyH_take (i := 12) (v := ?_) rfl (by kernel_rfl) (by kernel_rfl) (by kernel_rfl) (fun _ _ _ h => h) (Or.inl ⟨by rfl, ?_⟩) (by assumption) ?_
              rotate_left 1
              · (intro w hSw; (try dsimp only at hSw); (try simp only [List.getElem_toArray, List.getElem_cons_succ, List.getElem_cons_zero]); go_simp) <;> (with_reducible rfl)
              try simp only [List.getElem_toArray, List.getElem_cons_succ, List.getElem_cons_zero]
              try simp only [Act.put, List.setIfInBounds_toArray, List.set_cons_zero, List.set_cons_succ]
              refine wpAnyH_take (i := 13) (v := ?_) rfl (by kernel_rfl) (by kernel_rfl) (by kernel_rfl) (fun _ _ _ h => h) (Or.inl ⟨by rfl, ?_⟩) (by assumption) ?_
              rotate_left 1
              · (intro w hSw; (try dsimp only at hSw); (try simp only [List.getElem_toArray, List.getElem_cons_succ, List.getElem_cons_zero]); go_simp) <;> (with_reducible rfl)
              try simp only [List.getElem_toArray, List.getElem_cons_succ, List.getElem_cons_zero]
              try simp only [Act.put, List.setIfInBounds_toArray, List.set_cons_zero, List.set_cons_succ]
              refine wpAnyH_ready (rs := [14]) (by kernel_rfl) (by simp) ?_
              refine AllReadyH.cons rfl (fun K hK => ?_) AllReadyH.nil
              simp only [List.getElem_toArray, List.getElem_cons_succ, List.getElem_cons_zero]
              go_simp
              go_at_call 15
              (with_reducible refine (L1.out _ ?_).mono ?_)
              · assumption
              rintro e w' ⟨rfl, hS⟩
              try go_wp2_with fail
              refine hK.out _ _ hS (fun hHeld => ?_)
              clear hK K
              try simp only [Act.put, List.setIfInBounds_toArray, List.set_cons_zero, List.set_cons_succ]
              refine wpAnyH_take (i := 15) (v := ?_) rfl (by kernel_rfl) (by kernel_rfl) (by kernel_rfl) (fun _ _ _ h => h) (Or.inl ⟨by rfl, ?_⟩) (by assumption) ?_
              rotate_left 1
              · (intro w hSw; (try dsimp only at hSw); (try simp only [List.getElem_toArray, List.getElem_cons_succ, List.getElem_cons_zero]); go_simp) <;> (with_reducible rfl)
              try simp only [List.getElem_toArray, List.getElem_cons_succ, List.getElem_cons_zero]
              try simp only [Act.put, List.setIfInBounds_toArray, List.set_cons_zero, List.set_cons_succ]
              refine wpAnyH_take (i := 16) (v := ?_) rfl (by kernel_rfl) (by kernel_rfl) (by kernel_rfl) (fun _ _ _ h => h) (Or.inl ⟨by rfl, ?_⟩) (by assumption) ?_
              rotate_left 1
              · (intro w hSw; (try dsimp only at hSw); (try simp only [List.getElem_toArray, List.getElem_cons_succ, List.getElem_cons_zero]); go_simp) <;> (with_reducible rfl)
              try simp only [List.getElem_toArray, List.getElem_cons_succ, List.getElem_cons_zero]
              try simp only [Act.put, List.setIfInBounds_toArray, List.set_cons_zero, List.set_cons_succ]
              refine wpAnyH_take (i := 17) (v := undef) rfl (by kernel_rfl) (by kernel_rfl) (by kernel_rfl) (fun _ _ _ h => h) (Or.inr ⟨by rfl, rfl⟩) (by assumption) ?_
              simp only [List.getElem_toArray, List.getElem_cons_succ, List.getElem_cons_zero]
              try simp only [Act.put, List.setIfInBounds_toArray, List.set_cons_zero, List.set_cons_succ]
              refine wpAnyH_take (i := 18) (v := undef) rfl (by kernel_rfl) (by kernel_rfl) (by kernel_rfl) (fun _ _ _ h => h) (Or.inr ⟨by rfl, rfl⟩) (by assumption) ?_
              simp only [List.getElem_toArray, List.getElem_cons_succ, List.getElem_cons_zero]
              try simp only [Act.put, List.setIfInBounds_toArray, List.set_cons_zero, List.set_cons_succ]
              refine wpAnyH_take (i := 19) (v := undef) rfl (by kernel_rfl) (by kernel_rfl) (by kernel_rfl) (fun _ _ _ h => h) (Or.inr ⟨by rfl, rfl⟩) (by assumption) ?_
              simp only [List.getElem_toArray, List.getElem_cons_succ, List.getElem_cons_zero]
              try simp only [Act.put, List.setIfInBounds_toArray, List.set_cons_zero, List.set_cons_succ]
              refine wpAnyH_take (i := 20) (v := undef) rfl (by kernel_rfl) (by kernel_rfl) (by kernel_rfl) (fun _ _ _ h => h) (Or.inr ⟨by rfl, rfl⟩) (by assumption) ?_
              simp only [List.getElem_toArray, List.getElem_cons_succ, List.getElem_cons_zero]
              try simp only [Act.put, List.setIfInBounds_toArray, List.set_cons_zero, List.set_cons_succ]
              refine wpAnyH_take (i := 21) (v := undef) rfl (by kernel_rfl) (by kernel_rfl) (by kernel_rfl) (fun _ _ _ h => h) (Or.inr ⟨by rfl, rfl⟩) (by assumption) ?_
              simp only [List.getElem_toArray, List.getElem_cons_succ, List.getElem_cons_zero]
              try simp only [Act.put, List.setIfInBounds_toArray, List.set_cons_zero, List.set_cons_succ]
              refine wpAnyH_take (i := 22) (v := undef) rfl (by kernel_rfl) (by kernel_rfl) (by kernel_rfl) (fun _ _ _ h => h) (Or.inr ⟨by rfl, rfl⟩) (by assumption) ?_
              simp only [List.getElem_toArray, List.getElem_cons_succ, List.getElem_cons_zero]
              try simp only [Act.put, List.setIfInBounds_toArray, List.set_cons_zero, List.set_cons_succ]
              refine wpAnyH_take (i := 23) (v := undef) rfl (by kernel_rfl) (by kernel_rfl) (by kernel_rfl) (fun _ _ _ h => h) (Or.inr ⟨by rfl, rfl⟩) (by assumption) ?_
              simp only [List.getElem_toArray, List.getElem_cons_succ, List.getElem_cons_zero]
              try simp only [Act.put, List.setIfInBounds_toArray, List.set_cons_zero, List.set_cons_succ]
              refine wpAnyH_take (i := 24) (v := ?_) rfl (by kernel_rfl) (by kernel_rfl) (by kernel_rfl) (fun _ _ _ h => h) (Or.inl ⟨by rfl, ?_⟩) (by assumption) ?_
              rotate_left 1
              · (intro w hSw; (try dsimp only at hSw); (try simp only [List.getElem_toArray, List.getElem_cons_succ, List.getElem_cons_zero]); go_simp) <;> (with_reducible rfl)
              try simp only [List.getElem_toArray, List.getElem_cons_succ, List.getElem_cons_zero]
              try simp only [Act.put, List.setIfInBounds_toArray, List.set_cons_zero, List.set_cons_succ]
              refine wpAnyH_take (i := 25) (v := ?_) rfl (by kernel_rfl) (by kernel_rfl) (by kernel_rfl) (fun _ _ _ h => h) (Or.inl ⟨by rfl, ?_⟩) (by assumption) ?_
              rotate_left 1
              · (intro w hSw; (try dsimp only at hSw); (try simp only [List.getElem_toArray, List.getElem_cons_succ, List.getElem_cons_zero]); go_simp) <;> (with_reducible rfl)
              try simp only [List.getElem_toArray, List.getElem_cons_succ, List.getElem_cons_zero]
              try simp only [Act.put, List.setIfInBounds_toArray, List.set_cons_zero, List.set_cons_succ]
              refine wpAnyH_take (i := 26) (v := undef) rfl (by kernel_rfl) (by kernel_rfl) (by kernel_rfl) (fun _ _ _ h => h) (Or.inr ⟨by rfl, rfl⟩) (by assumption) ?_
              simp only [List.getElem_toArray, List.getElem_cons_succ, List.getElem_cons_zero]
              try simp only [Act.put, List.setIfInBounds_toArray, List.set_cons_zero, List.set_cons_succ]
              refine wpAnyH_take (i := 27) (v := undef) rfl (by kernel_rfl) (by kernel_rfl) (by kernel_rfl) (fun _ _ _ h => h) (Or.inr ⟨by rfl, rfl⟩) (by assumption) ?_
              simp only [List.getElem_toArray, List.getElem_cons_succ, List.getElem_cons_zero]
              try simp only [Act.put, List.setIfInBounds_toArray, List.set_cons_zero, List.set_cons_succ]
              refine wpAnyH_take (i := 28) (v := undef) rfl (by kernel_rfl) (by kernel_rfl) (by kernel_rfl) (fun _ _ _ h => h) (Or.inr ⟨by rfl, rfl⟩) (by assumption) ?_
              simp only [List.getElem_toArray, List.getElem_cons_succ, List.getElem_cons_zero]
              try simp only [Act.put, List.setIfInBounds_toArray, List.set_cons_zero, List.set_cons_succ]
              refine wpAnyH_take (i := 29) (v := undef) rfl (by kernel_rfl) (by kernel_rfl) (by kernel_rfl) (fun _ _ _ h => h) (Or.inr ⟨by rfl, rfl⟩) (by assumption) ?_
              simp only [List.getElem_toArray, List.getElem_cons_succ, List.getElem_cons_zero]
              try simp only [Act.put, List.setIfInBounds_toArray, List.set_cons_zero, List.set_cons_succ]
              refine wpAnyH_take (i := 30) (v := undef) rfl (by kernel_rfl) (by kernel_rfl) (by kernel_rfl) (fun _ _ _ h => h) (Or.inr ⟨by rfl, rfl⟩) (by assumption) ?_
              simp only [List.getElem_toArray, List.getElem_cons_succ, List.getElem_cons_zero]
              try simp only [Act.put, List.setIfInBounds_toArray, List.set_cons_zero, List.set_cons_succ]
              refine wpAnyH_take (i := 31) (v := undef) rfl (by kernel_rfl) (by kernel_rfl) (by kernel_rfl) (fun _ _ _ h => h) (Or.inr ⟨by rfl, rfl⟩) (by assumption) ?_
              simp only [List.getElem_toArray, List.getElem_cons_succ, List.getElem_cons_zero]
              try simp only [Act.put, List.setIfInBounds_toArray, List.set_cons_zero, List.set_cons_succ]
              refine wpAnyH_take (i := 32) (v := undef) rfl (by kernel_rfl) (by kernel_rfl) (by kernel_rfl) (fun _ _ _ h => h) (Or.inr ⟨by rfl, rfl⟩) (by assumption) ?_
              simp only [List.getElem_toArray, List.getElem_cons_succ, List.getElem_cons_zero]
              try simp only [Act.put, List.setIfInBounds_toArray, List.set_cons_zero, List.set_cons_succ]
              refine wpAnyH_take (i := 33) (v := undef) rfl (by kernel_rfl) (by kernel_rfl) (by kernel_rfl) (fun _ _ _ h => h) (Or.inr ⟨by rfl, rfl⟩) (by assumption) ?_
              simp only [List.getElem_toArray, List.getElem_cons_succ, List.getElem_cons_zero]
              try simp only [Act.put, List.setIfInBounds_toArray, List.set_cons_zero, List.set_cons_succ]
              refine wpAnyH_take (i := 34) (v := ?_) rfl (by kernel_rfl) (by kernel_rfl) (by kernel_rfl) (fun _ _ _ h => h) (Or.inl ⟨by rfl, ?_⟩) (by assumption) ?_
              rotate_left 1
              · (intro w hSw; (try dsimp only at hSw); (try simp only [List.getElem_toArray, List.getElem_cons_succ, List.getElem_cons_zero]); go_simp) <;> (with_reducible rfl)
              try simp only [List.getElem_toArray, List.getElem_cons_succ, List.getElem_cons_zero]
              try simp only [Act.put, List.setIfInBounds_toArray, List.set_cons_zero, List.set_cons_succ]
              refine wpAnyH_take (i := 35) (v := ?_) rfl (by kernel_rfl) (by kernel_rfl) (by kernel_rfl) (fun _ _ _ h => h) (Or.inl ⟨by rfl, ?_⟩) (by assumption) ?_
              rotate_left 1
              · (intro w hSw; (try dsimp only at hSw); (try simp only [List.getElem_toArray, List.getElem_cons_succ, List.getElem_cons_zero]); go_simp) <;> (with_reducible rfl)
              try simp only [List.getElem_toArray, List.getElem_cons_succ, List.getElem_cons_zero]
              try simp only [Act.put, List.setIfInBounds_toArray, List.set_cons_zero, List.set_cons_succ]
              refine wpAnyH_take (i := 36) (v := undef) rfl (by kernel_rfl) (by kernel_rfl) (by kernel_rfl) (fun _ _ _ h => h) (Or.inr ⟨by rfl, rfl⟩) (by assumption) ?_
              simp only [List.getElem_toArray, List.getElem_cons_succ, List.getElem_cons_zero]
              try simp only [Act.put, List.setIfInBounds_toArray, List.set_cons_zero, List.set_cons_succ]
              refine wpAnyH_take (i := 37) (v := undef) rfl (by kernel_rfl) (by kernel_rfl) (by kernel_rfl) (fun _ _ _ h => h) (Or.inr ⟨by rfl, rfl⟩) (by assumption) ?_
              simp only [List.getElem_toArray, List.getElem_cons_succ, List.getElem_cons_zero]
              try simp only [Act.put, List.setIfInBounds_toArray, List.set_cons_zero, List.set_cons_succ]
              refine wpAnyH_take (i := 38) (v := undef) rfl (by kernel_rfl) (by kernel_rfl) (by kernel_rfl) (fun _ _ _ h => h) (Or.inr ⟨by rfl, rfl⟩) (by assumption) ?_
              simp only [List.getElem_toArray, List.getElem_cons_succ, List.getElem_cons_zero]
              try simp only [Act.put, List.setIfInBounds_toArray, List.set_cons_zero, List.set_cons_succ]
              refine wpAnyH_take (i := 39) (v := undef) rfl (by kernel_rfl) (by kernel_rfl) (by kernel_rfl) (fun _ _ _ h => h) (Or.inr ⟨by rfl, rfl⟩) (by assumption) ?_
              simp only [List.getElem_toArray, List.getElem_cons_succ, List.getElem_cons_zero]
              try simp only [Act.put, List.setIfInBounds_toArray, List.set_cons_zero, List.set_cons_succ]
              refine wpAnyH_take (i := 40) (v := undef) rfl (by kernel_rfl) (by kernel_rfl) (by kernel_rfl) (fun _ _ _ h => h) (Or.inr ⟨by rfl, rfl⟩) (by assumption) ?_
              simp only [List.getElem_toArray, List.getElem_cons_succ, List.getElem_cons_zero]
              try simp only [Act.put, List.setIfInBounds_toArray, List.set_cons_zero, List.set_cons_succ]
              refine wpAnyH_take (i := 41) (v := undef) rfl (by kernel_rfl) (by kernel_rfl) (by kernel_rfl) (fun _ _ _ h => h) (Or.inr ⟨by rfl, rfl⟩) (by assumption) ?_
              simp only [List.getElem_toArray, List.getElem_cons_succ, List.getElem_cons_zero]
              try simp only [Act.put, List.setIfInBounds_toArray, List.set_cons_zero, List.set_cons_succ]
              refine wpAnyH_take (i := 42) (v := ?_) rfl (by kernel_rfl) (by kernel_rfl) (by kernel_rfl) (fun _ _ _ h => h) (Or.inl ⟨by rfl, ?_⟩) (by assumption) ?_
              rotate_left 1
              · (intro w hSw; (try dsimp only at hSw); (try simp only [List.getElem_toArray, List.getElem_cons_succ, List.getElem_cons_zero]); go_simp) <;> (with_reducible rfl)
              try simp only [List.getElem_toArray, List.getElem_cons_succ, List.getElem_cons_zero]
              try simp only [Act.put, List.setIfInBounds_toArray, List.set_cons_zero, List.set_cons_succ]
              refine wpAnyH_take (i := 43) (v := ?_) rfl (by kernel_rfl) (by kernel_rfl) (by kernel_rfl) (fun _ _ _ h => h) (Or.inl ⟨by rfl, ?_⟩) (by assumption) ?_
              rotate_left 1
              · (intro w hSw; (try dsimp only at hSw); (try simp only [List.getElem_toArray, List.getElem_cons_succ, List.getElem_cons_zero]); go_simp) <;> (with_reducible rfl)
              try simp only [List.getElem_toArray, List.getElem_cons_succ, List.getElem_cons_zero]
              try simp only [Act.put, List.setIfInBounds_toArray, List.set_cons_zero, List.set_cons_succ]
              refine wpAnyH_take (i := 44) (v := undef) rfl (by kernel_rfl) (by kernel_rfl) (by kernel_rfl) (fun _ _ _ h => h) (Or.inr ⟨by rfl, rfl⟩) (by assumption) ?_
              simp only [List.getElem_toArray, List.getElem_cons_succ, List.getElem_cons_zero]
              try simp only [Act.put, List.setIfInBounds_toArray, List.set_cons_zero, List.set_cons_succ]
              refine wpAnyH_take (i := 45) (v := undef) rfl (by kernel_rfl) (by kernel_rfl) (by kernel_rfl) (fun _ _ _ h => h) (Or.inr ⟨by rfl, rfl⟩) (by assumption) ?_
              simp only [List.getElem_toArray, List.getElem_cons_succ, List.getElem_cons_zero]
              try simp only [Act.put, List.setIfInBounds_toArray, List.set_cons_zero, List.set_cons_succ]
              refine wpAnyH_take (i := 46) (v := undef) rfl (by kernel_rfl) (by kernel_rfl) (by kernel_rfl) (fun _ _ _ h => h) (Or.inr ⟨by rfl, rfl⟩) (by assumption) ?_
              simp only [List.getElem_toArray, List.getElem_cons_succ, List.getElem_cons_zero]
              try simp only [Act.put, List.setIfInBounds_toArray, List.set_cons_zero, List.set_cons_succ]
              refine wpAnyH_take (i := 47) (v := undef) rfl (by kernel_rfl) (by kernel_rfl) (by kernel_rfl) (fun _ _ _ h => h) (Or.inr ⟨by rfl, rfl⟩) (by assumption) ?_
              simp only [List.getElem_toArray, List.getElem_cons_succ, List.getElem_cons_zero]
              try simp only [Act.put, List.setIfInBounds_toArray, List.set_cons_zero, List.set_cons_succ]
              refine wpAnyH_take (i := 48) (v := undef) rfl (by kernel_rfl) (by kernel_rfl) (by kernel_rfl) (fun _ _ _ h => h) (Or.inr ⟨by rfl, rfl⟩) (by assumption) ?_
              simp only [List.getElem_toArray, List.getElem_cons_succ, List.getElem_cons_zero]
              try simp only [Act.put, List.setIfInBounds_toArray, List.set_cons_zero, List.set_cons_succ]
              refine wpAnyH_take (i := 49) (v := undef) rfl (by kernel_rfl) (by kernel_rfl) (by kernel_rfl) (fun _ _ _ h => h) (Or.inr ⟨by rfl, rfl⟩) (by assumption) ?_
              simp only [List.getElem_toArray, List.getElem_cons_succ, List.getElem_cons_zero]
              try simp only [Act.put, List.setIfInBounds_toArray, List.set_cons_zero, List.set_cons_succ]
              refine wpAnyH_take (i := 50) (v := ?_) rfl (by kernel_rfl) (by kernel_rfl) (by kernel_rfl) (fun _ _ _ h => h) (Or.inl ⟨by rfl, ?_⟩) (by assumption) ?_
              rotate_left 1
              · (intro w hSw; (try dsimp only at hSw); (try simp only [List.getElem_toArray, List.getElem_cons_succ, List.getElem_cons_zero]); go_simp) <;> (with_reducible rfl)
              try simp only [List.getElem_toArray, List.getElem_cons_succ, List.getElem_cons_zero]
              try simp only [Act.put, List.setIfInBounds_toArray, List.set_cons_zero, List.set_cons_succ]
              refine wpAnyH_take (i := 51) (v := ?_) rfl (by kernel_rfl) (by kernel_rfl) (by kernel_rfl) (fun _ _ _ h => h) (Or.inl ⟨by rfl, ?_⟩) (by assumption) ?_
              rotate_left 1
              · (intro w hSw; (try dsimp only at hSw); (try simp only [List.getElem_toArray, List.getElem_cons_succ, List.getElem_cons_zero]); go_simp) <;> (with_reducible rfl)
              try simp only [List.getElem_toArray, List.getElem_cons_succ, List.getElem_cons_zero]
              try simp only [Act.put, List.setIfInBounds_toArray, List.set_cons_zero, List.set_cons_succ]
              refine wpAnyH_done (by kernel_rfl) ?_ _
              have mv := hS.2.2.2.2.2.2.2.2.2.2.2.2.2.2.2.2.2.2.2.2.2.2.2.2
              clear hS
              go_wp2_with fail
              refine (awake_any _).mono ?_
              rintro e w5 ⟨rfl, b5⟩
              go_wp2_with fail
              go_ret
              exact ⟨ret_bool rfl, by rw [HN.out]; exact mv.bel.trans (b5.mono (by have := mv.le; have := mv.xl; have := mv.nx; omega))⟩
          have h1 : decide (100 < v1) = false := decide_eq_false g1
          by_cases g2 : 100 < v2
          · have h2 : decide (100 < v2) = true := decide_eq_true g2
            as_aux_lemma =>
              go_wp2_with fail
              refine wp_region_held_drew (S := fun w' => w'.cell? ⟨ba, oa + k * 8, none⟩ = some (.int .i64 rk) ∧ w'.cell? ⟨ba, oa + k * 8 + 1, none⟩ = some (.int .i64 oi) ∧ w'.cell? ⟨ba, oa + k * 8 + 2, none⟩ = some (.int .i64 op) ∧ w'.cell? ⟨ba, oa + k * 8 + 3, none⟩ = some (.int .i64 ot_) ∧ w'.cell? ⟨ba, oa + k * 8 + 4, none⟩ = some (.int .i64 ol) ∧ w'.cell? ⟨ba, oa + k * 8 + 5, none⟩ = some (.int .i64 ob) ∧ w'.cell? ⟨ba, oa + k * 8 + 6, none⟩ = some (.int .i64 or_) ∧ w'.cell? ⟨ba, oa + k * 8 + 7, none⟩ = some (.string olb) ∧ w'.cell? ⟨N, 0, none⟩ = some (.int .i64 rk) ∧ w'.cell? ⟨N, 1, none⟩ = some (.int .i64 ri) ∧ w'.cell? ⟨N, 2, none⟩ = some (.int .i64 rp) ∧ w'.cell? ⟨N, 3, none⟩ = some (.int .i64 rt_) ∧ w'.cell? ⟨N, 4, none⟩ = some (.int .i64 rl) ∧ w'.cell? ⟨N, 5, none⟩ = some (.int .i64 rb) ∧ w'.cell? ⟨N, 6, none⟩ = some (.int .i64 rr) ∧ w'.cell? ⟨N, 7, none⟩ = some (.string rlb) ∧ w'.cell? ⟨X, 0, none⟩ = some (.int .i64 rk) ∧ w'.cell? ⟨X, 1, none⟩ = some (.int .i64 ri) ∧ w'.cell? ⟨X, 2, none⟩ = some (.int .i64 rp) ∧ w'.cell? ⟨X, 3, none⟩ = some (.int .i64 T) ∧ w'.cell? ⟨X, 4, none⟩ = some (.int .i64 L) ∧ w'.cell? ⟨X, 5, none⟩ = some (.int .i64 Bo) ∧ w'.cell? ⟨X, 6, none⟩ = some (.int .i64 R) ∧ w'.cell? ⟨X, 7, none⟩ = some (.string rlb) ∧ I.Mv N X S nl (⟨rk, ri, rp, rt_, rl, rb, rr, rlb⟩ : I.Rg) (⟨rk, ri, rp, T, L, Bo, R, rlb⟩ : I.Rg) (.slice (some ⟨g, 0, none⟩) nl cg) ((⟨rk, 0, rp, rt_, rl, rb, rr, rlb⟩ : I.Rg) :: ot) w w') (by kernel_rfl) S1.out (fun hHeld => ?_)
              refine wpAnyH_take (i := 0) (v := ?_) rfl (by kernel_rfl) (by kernel_rfl) (by kernel_rfl) (fun _ _ _ h => h) (Or.inl ⟨by rfl, ?_⟩) (by assumption) ?_
              rotate_left 1
              · (intro w hSw; (try dsimp only at hSw); (try simp only [List.getElem_toArray, List.getElem_cons_succ, List.getElem_cons_zero]); go_simp) <;> (with_reducible rfl)
              try simp only [List.getElem_toArray, List.getElem_cons_succ, List.getElem_cons_zero]
              try simp only [Act.put, List.setIfInBounds_toArray, List.set_cons_zero, List.set_cons_succ]
              refine wpAnyH_take (i := 1) (v := ?_) rfl (by kernel_rfl) (by kernel_rfl) (by kernel_rfl) (fun _ _ _ h => h) (Or.inl ⟨by rfl, ?_⟩) (by assumption) ?_
              rotate_left 1
              · (intro w hSw; (try dsimp only at hSw); (try simp only [List.getElem_toArray, List.getElem_cons_succ, List.getElem_cons_zero]); go_simp) <;> (with_reducible rfl)
              try simp only [List.getElem_toArray, List.getElem_cons_succ, List.getElem_cons_zero]
              try simp only [Act.put, List.setIfInBounds_toArray, List.set_cons_zero, List.set_cons_succ]
              refine wpAnyH_take (i := 2) (v := ?_) rfl (by kernel_rfl) (by kernel_rfl) (by kernel_rfl) (fun _ _ _ h => h) (Or.inl ⟨by rfl, ?_⟩) (by assumption) ?_
              rotate_left 1
              · (intro w hSw; (try dsimp only at hSw); (try simp only [List.getElem_toArray, List.getElem_cons_succ, List.getElem_cons_zero]); go_simp) <;> (with_reducible rfl)
              try simp only [List.getElem_toArray, List.getElem_cons_succ, List.getElem_cons_zero]
              try simp only [Act.put, List.setIfInBounds_toArray, List.set_cons_zero, List.set_cons_succ]
              refine wpAnyH_take (i := 3) (v := ?_) rfl (by kernel_rfl) (by kernel_rfl) (by kernel_rfl) (fun _ _ _ h => h) (Or.inl ⟨by rfl, ?_⟩) (by assumption) ?_
              rotate_left 1
              · (intro w hSw; (try dsimp only at hSw); (try simp only [List.getElem_toArray, List.getElem_cons_succ, List.getElem_cons_zero]); go_simp) <;> (with_reducible rfl)
              try simp only [List.getElem_toArray, List.getElem_cons_succ, List.getElem_cons_zero]
              try simp only [Act.put, List.setIfInBounds_toArray, List.set_cons_zero, List.set_cons_succ]
              refine wpAnyH_take (i := 4) (v := ?_) rfl (by kernel_rfl) (by kernel_rfl) (by kernel_rfl) (fun _ _ _ h => h) (Or.inl ⟨by rfl, ?_⟩) (by assumption) ?_
              rotate_left 1
              · (intro w hSw; (try dsimp only at hSw); (try simp only [List.getElem_toArray, List.getElem_cons_succ, List.getElem_cons_zero]); go_simp) <;> (with_reducible rfl)
              try simp only [List.getElem_toArray, List.getElem_cons_succ, List.getElem_cons_zero]
              try simp only [Act.put, List.setIfInBounds_toArray, List.set_cons_zero, List.set_cons_succ]
              refine wpAnyH_take (i := 5) (v := ?_) rfl (by kernel_rfl) (by kernel_rfl) (by kernel_rfl) (fun _ _ _ h => h) (Or.inl ⟨by rfl, ?_⟩) (by assumption) ?_
              rotate_left 1
              · (intro w hSw; (try dsimp only at hSw); (try simp only [List.getElem_toArray, List.getElem_cons_succ, List.getElem_cons_zero]); go_simp) <;> (with_reducible rfl)
              try simp only [List.getElem_toArray, List.getElem_cons_succ, List.getElem_cons_zero]
              try simp only [Act.put, List.setIfInBounds_toArray, List.set_cons_zero, List.set_cons_succ]
              refine wpAnyH_take (i := 6) (v := ?_) rfl (by kernel_rfl) (by kernel_rfl) (by kernel_rfl) (fun _ _ _ h => h) (Or.inl ⟨by rfl, ?_⟩) (by assumption) ?_
              rotate_left 1
              · (intro w hSw; (try dsimp only at hSw); (try simp only [List.getElem_toArray, List.getElem_cons_succ, List.getElem_cons_zero]); go_simp) <;> (with_reducible rfl)
              try simp only [List.getElem_toArray, List.getElem_cons_succ, List.getElem_cons_zero]
              try simp only [Act.put, List.setIfInBounds_toArray, List.set_cons_zero, List.set_cons_succ]
              refine wpAnyH_take (i := 7) (v := ?_) rfl (by kernel_rfl) (by kernel_rfl) (by kernel_rfl) (fun _ _ _ h => h) (Or.inl ⟨by rfl, ?_⟩) (by assumption) ?_
              rotate_left 1
              · (intro w hSw; (try dsimp only at hSw); (try simp only [List.getElem_toArray, List.getElem_cons_succ, List.getElem_cons_zero]); go_simp) <;> (with_reducible rfl)
              try simp only [List.getElem_toArray, List.getElem_cons_succ, List.getElem_cons_zero]
              try simp only [Act.put, List.setIfInBounds_toArray, List.set_cons_zero, List.set_cons_succ]
              refine wpAnyH_take (i := 8) (v := ?_) rfl (by kernel_rfl) (by kernel_rfl) (by kernel_rfl) (fun _ _ _ h => h) (Or.inl ⟨by rfl, ?_⟩) (by assumption) ?_
              rotate_left 1
              · (intro w hSw; (try dsimp only at hSw); (try simp only [List.getElem_toArray, List.getElem_cons_succ, List.getElem_cons_zero]); go_simp) <;> (with_reducible rfl)
              try simp only [List.getElem_toArray, List.getElem_cons_succ, List.getElem_cons_zero]
              try simp only [Act.put, List.setIfInBounds_toArray, List.set_cons_zero, List.set_cons_succ]
              refine wpAnyH_take (i := 9) (v := ?_) rfl (by kernel_rfl) (by kernel_rfl) (by kernel_rfl) (fun _ _ _ h => h) (Or.inl ⟨by rfl, ?_⟩) (by assumption) ?_
              rotate_left 1
              · (intro w hSw; (try dsimp only at hSw); (try simp only [List.getElem_toArray, List.getElem_cons_succ, List.getElem_cons_zero]); go_simp) <;> (with_reducible rfl)
              try simp only [List.getElem_toArray, List.getElem_cons_succ, List.getElem_cons_zero]
              try simp only [Act.put, List.setIfInBounds_toArray, List.set_cons_zero, List.set_cons_succ]
              refine wpAnyH_take (i := 10) (v := ?_) rfl (by kernel_rfl) (by kernel_rfl) (by kernel_rfl) (fun _ _ _ h => h) (Or.inl ⟨by rfl, ?_⟩) (by assumption) ?_
              rotate_left 1
              · (intro w hSw; (try dsimp only at hSw); (try simp only [List.getElem_toArray, List.getElem_cons_succ, List.getElem_cons_zero]); go_simp) <;> (with_reducible rfl)
              try simp only [List.getElem_toArray, List.getElem_cons_succ, List.getElem_cons_zero]
              try simp only [Act.put, List.setIfInBounds_toArray, List.set_cons_zero, List.set_cons_succ]
              refine wpAnyH_take (i := 11) (v := ?_) rfl (by kernel_rfl) (by kernel_rfl) (by kernel_rfl) (fun _ _ _ h => h) (Or.inl ⟨by rfl, ?_⟩) (by assumption) ?_
              rotate_left 1
              · (intro w hSw; (try dsimp only at hSw); (try simp only [List.getElem_toArray, List.getElem_cons_succ, List.getElem_cons_zero]); go_simp) <;> (with_reducible rfl)
              try simp only [List.getElem_toArray, List.getElem_cons_succ, List.getElem_cons_zero]
              try simp only [Act.put, List.setIfInBounds_toArray, List.set_cons_zero, List.set_cons_succ]
              refine wpAnyH_take (i := 12) (v := ?_) rfl (by kernel_rfl) (by kernel_rfl) (by kernel_rfl) (fun _ _ _ h => h) (Or.inl ⟨by rfl, ?_⟩) (by assumption) ?_
              rotate_left 1
              · (intro w hSw; (try dsimp only at hSw); (try simp only [List.getElem_toArray, List.getElem_cons_succ, List.getElem_cons_zero]); go_simp) <;> (with_reducible rfl)
              try simp only [List.getElem_toArray, List.getElem_cons_succ, List.getElem_cons_zero]
              try simp only [Act.put, List.setIfInBounds_toArray, List.set_cons_zero, List.set_cons_succ]
              refine wpAnyH_take (i := 13) (v := ?_) rfl (by kernel_rfl) (by kernel_rfl) (by kernel_rfl) (fun _ _ _ h => h) (Or.inl ⟨by rfl, ?_⟩) (by assumption) ?_
              rotate_left 1
              · (intro w hSw; (try dsimp only at hSw); (try simp only [List.getElem_toArray, List.getElem_cons_succ, List.getElem_cons_zero]); go_simp) <;> (with_reducible rfl)
              try simp only [List.getElem_toArray, List.getElem_cons_succ, List.getElem_cons_zero]
              try simp only [Act.put, List.setIfInBounds_toArray, List.set_cons_zero, List.set_cons_succ]
              refine wpAnyH_ready (rs := [14]) (by kernel_rfl) (by simp) ?_
              refine AllReadyH.cons rfl (fun K hK => ?_) AllReadyH.nil
              simp only [List.getElem_toArray, List.getElem_cons_succ, List.getElem_cons_zero]
              go_simp
              go_at_call 15
              (with_reducible refine (L1.out _ ?_).mono ?_)
              · assumption
              rintro e w' ⟨rfl, hS⟩
              try go_wp2_with fail
              refine hK.out _ _ hS (fun hHeld => ?_)
              clear hK K
              try simp only [Act.put, List.setIfInBounds_toArray, List.set_cons_zero, List.set_cons_succ]
              refine wpAnyH_take (i := 15) (v := ?_) rfl (by kernel_rfl) (by kernel_rfl) (by kernel_rfl) (fun _ _ _ h => h) (Or.inl ⟨by rfl, ?_⟩) (by assumption) ?_
              rotate_left 1
              · (intro w hSw; (try dsimp only at hSw); (try simp only [List.getElem_toArray, List.getElem_cons_succ, List.getElem_cons_zero]); go_simp) <;> (with_reducible rfl)
              try simp only [List.getElem_toArray, List.getElem_cons_succ, List.getElem_cons_zero]
              try simp only [Act.put, List.setIfInBounds_toArray, List.set_cons_zero, List.set_cons_succ]
              refine wpAnyH_take (i := 16) (v := ?_) rfl (by kernel_rfl) (by kernel_rfl) (by kernel_rfl) (fun _ _ _ h => h) (Or.inl ⟨by rfl, ?_⟩) (by assumption) ?_
              rotate_left 1
              · (intro w hSw; (try dsimp only at hSw); (try simp only [List.getElem_toArray, List.getElem_cons_succ, List.getElem_cons_zero]); go_simp) <;> (with_reducible rfl)
              try simp only [List.getElem_toArray, List.getElem_cons_succ, List.getElem_cons_zero]
              try simp only [Act.put, List.setIfInBounds_toArray, List.set_cons_zero, List.set_cons_succ]
              refine wpAnyH_take (i := 17) (v := ?_) rfl (by kernel_rfl) (by kernel_rfl) (by kernel_rfl) (fun _ _ _ h => h) (Or.inl ⟨by rfl, ?_⟩) (by assumption) ?_
              rotate_left 1
              · (intro w hSw; (try dsimp only at hSw); (try simp only [List.getElem_toArray, List.getElem_cons_succ, List.getElem_cons_zero]); go_simp) <;> (with_reducible rfl)
              try simp only [List.getElem_toArray, List.getElem_cons_succ, List.getElem_cons_zero]
              try simp only [Act.put, List.setIfInBounds_toArray, List.set_cons_zero, List.set_cons_succ]
              refine wpAnyH_take (i := 18) (v := ?_) rfl (by kernel_rfl) (by kernel_rfl) (by kernel_rfl) (fun _ _ _ h => h) (Or.inl ⟨by rfl, ?_⟩) (by assumption) ?_
              rotate_left 1
              · (intro w hSw; (try dsimp only at hSw); (try simp only [List.getElem_toArray, List.getElem_cons_succ, List.getElem_cons_zero]); go_simp) <;> (with_reducible rfl)
              try simp only [List.getElem_toArray, List.getElem_cons_succ, List.getElem_cons_zero]
              try simp only [Act.put, List.setIfInBounds_toArray, List.set_cons_zero, List.set_cons_succ]
              refine wpAnyH_take (i := 19) (v := ?_) rfl (by kernel_rfl) (by kernel_rfl) (by kernel_rfl) (fun _ _ _ h => h) (Or.inl ⟨by rfl, ?_⟩) (by assumption) ?_
              rotate_left 1
              · (intro w hSw; (try dsimp only at hSw); (try simp only [List.getElem_toArray, List.getElem_cons_succ, List.getElem_cons_zero]); go_simp) <;> (with_reducible rfl)
              try simp only [List.getElem_toArray, List.getElem_cons_succ, List.getElem_cons_zero]
              try simp only [Act.put, List.setIfInBounds_toArray, List.set_cons_zero, List.set_cons_succ]
              refine wpAnyH_take (i := 20) (v := ?_) rfl (by kernel_rfl) (by kernel_rfl) (by kernel_rfl) (fun _ _ _ h => h) (Or.inl ⟨by rfl, ?_⟩) (by assumption) ?_
              rotate_left 1
              · (intro w hSw; (try dsimp only at hSw); (try simp only [List.getElem_toArray, List.getElem_cons_succ, List.getElem_cons_zero]); go_simp) <;> (with_reducible rfl)
              try simp only [List.getElem_toArray, List.getElem_cons_succ, List.getElem_cons_zero]
              try simp only [Act.put, List.setIfInBounds_toArray, List.set_cons_zero, List.set_cons_succ]
              refine wpAnyH_take (i := 21) (v := ?_) rfl (by kernel_rfl) (by kernel_rfl) (by kernel_rfl) (fun _ _ _ h => h) (Or.inl ⟨by rfl, ?_⟩) (by assumption) ?_
              rotate_left 1
              · (intro w hSw; (try dsimp only at hSw); (try simp only [List.getElem_toArray, List.getElem_cons_succ, List.getElem_cons_zero]); go_simp) <;> (with_reducible rfl)
              try simp only [List.getElem_toArray, List.getElem_cons_succ, List.getElem_cons_zero]
              try simp only [Act.put, List.setIfInBounds_toArray, List.set_cons_zero, List.set_cons_succ]
              refine wpAnyH_ready (rs := [22]) (by kernel_rfl) (by simp) ?_
              refine AllReadyH.cons rfl (fun K hK => ?_) AllReadyH.nil
              simp only [List.getElem_toArray, List.getElem_cons_succ, List.getElem_cons_zero]
              go_simp
              go_at_call 15
              (with_reducible refine (L2.out _ ?_).mono ?_)
              · assumption
              rintro e w' ⟨rfl, hS⟩
              try go_wp2_with fail
              refine hK.out _ _ hS (fun hHeld => ?_)
              clear hK K
              try simp only [Act.put, List.setIfInBounds_toArray, List.set_cons_zero, List.set_cons_succ]
              refine wpAnyH_take (i := 23) (v := ?_) rfl (by kernel_rfl) (by kernel_rfl) (by kernel_rfl) (fun _ _ _ h => h) (Or.inl ⟨by rfl, ?_⟩) (by assumption) ?_
              rotate_left 1
              · (intro w hSw; (try dsimp only at hSw); (try simp only [List.getElem_toArray, List.getElem_cons_succ, List.getElem_cons_zero]); go_simp) <;> (with_reducible rfl)
              try simp only [List.getElem_toArray, List.getElem_cons_succ, List.getElem_cons_zero]
              try simp only [Act.put, List.setIfInBounds_toArray, List.set_cons_zero, List.set_cons_succ]
              refine wpAnyH_take (i := 24) (v := ?_) rfl (by kernel_rfl) (by kernel_rfl) (by kernel_rfl) (fun _ _ _ h => h) (Or.inl ⟨by rfl, ?_⟩) (by assumption) ?_
              rotate_left 1
              · (intro w hSw; (try dsimp only at hSw); (try simp only [List.getElem_toArray, List.getElem_cons_succ, List.getElem_cons_zero]); go_simp) <;> (with_reducible rfl)
              try simp only [List.getElem_toArray, List.getElem_cons_succ, List.getElem_cons_zero]
              try simp only [Act.put, List.setIfInBounds_toArray, List.set_cons_zero, List.set_cons_succ]
              refine wpAnyH_take (i := 25) (v := ?_) rfl (by kernel_rfl) (by kernel_rfl) (by kernel_rfl) (fun _ _ _ h => h) (Or.inl ⟨by rfl, ?_⟩) (by assumption) ?_
              rotate_left 1
              · (intro w hSw; (try dsimp only at hSw); (try simp only [List.getElem_toArray, List.getElem_cons_succ, List.getElem_cons_zero]); go_simp) <;> (with_reducible rfl)
              try simp only [List.getElem_toArray, List.getElem_cons_succ, List.getElem_cons_zero]
              try simp only [Act.put, List.setIfInBounds_toArray, List.set_cons_zero, List.set_cons_succ]
              refine wpAnyH_take (i := 26) (v := undef) rfl (by kernel_rfl) (by kernel_rfl) (by kernel_rfl) (fun _ _ _ h => h) (Or.inr ⟨by rfl, rfl⟩) (by assumption) ?_
              simp only [List.getElem_toArray, List.getElem_cons_succ, List.getElem_cons_zero]
              try simp only [Act.put, List.setIfInBounds_toArray, List.set_cons_zero, List.set_cons_succ]
              refine wpAnyH_take (i := 27) (v := undef) rfl (by kernel_rfl) (by kernel_rfl) (by kernel_rfl) (fun _ _ _ h => h) (Or.inr ⟨by rfl, rfl⟩) (by assumption) ?_
              simp only [List.getElem_toArray, List.getElem_cons_succ, List.getElem_cons_zero]
              try simp only [Act.put, List.setIfInBounds_toArray, List.set_cons_zero, List.set_cons_succ]
              refine wpAnyH_take (i := 28) (v := undef) rfl (by kernel_rfl) (by kernel_rfl) (by kernel_rfl) (fun _ _ _ h => h) (Or.inr ⟨by rfl, rfl⟩) (by assumption) ?_
              simp only [List.getElem_toArray, List.getElem_cons_succ, List.getElem_cons_zero]
              try simp only [Act.put, List.setIfInBounds_toArray, List.set_cons_zero, List.set_cons_succ]
              refine wpAnyH_take (i := 29) (v := undef) rfl (by kernel_rfl) (by kernel_rfl) (by kernel_rfl) (fun _ _ _ h => h) (Or.inr ⟨by rfl, rfl⟩) (by assumption) ?_
              simp only [List.getElem_toArray, List.getElem_cons_succ, List.getElem_cons_zero]
              try simp only [Act.put, List.setIfInBounds_toArray, List.set_cons_zero, List.set_cons_succ]
              refine wpAnyH_take (i := 30) (v := undef) rfl (by kernel_rfl) (by kernel_rfl) (by kernel_rfl) (fun _ _ _ h => h) (Or.inr ⟨by rfl, rfl⟩) (by assumption) ?_
              simp only [List.getElem_toArray, List.getElem_cons_succ, List.getElem_cons_zero]
              try simp only [Act.put, List.setIfInBounds_toArray, List.set_cons_zero, List.set_cons_succ]
              refine wpAnyH_take (i := 31) (v := undef) rfl (by kernel_rfl) (by kernel_rfl) (by kernel_rfl) (fun _ _ _ h => h) (Or.inr ⟨by rfl, rfl⟩) (by assumption) ?_
              simp only [List.getElem_toArray, List.getElem_cons_succ, List.getElem_cons_zero]
              try simp only [Act.put, List.setIfInBounds_toArray, List.set_cons_zero, List.set_cons_succ]
              refine wpAnyH_take (i := 32) (v := undef) rfl (by kernel_rfl) (by kernel_rfl) (by kernel_rfl) (fun _ _ _ h => h) (Or.inr ⟨by rfl, rfl⟩) (by assumption) ?_
              simp only [List.getElem_toArray, List.getElem_cons_succ, List.getElem_cons_zero]
              try simp only [Act.put, List.setIfInBounds_toArray, List.set_cons_zero, List.set_cons_succ]
              refine wpAnyH_take (i := 33) (v := undef) rfl (by kernel_rfl) (by kernel_rfl) (by kernel_rfl) (fun _ _ _ h => h) (Or.inr ⟨by rfl, rfl⟩) (by assumption) ?_
              simp only [List.getElem_toArray, List.getElem_cons_succ, List.getElem_cons_zero]
              try simp only [Act.put, List.setIfInBounds_toArray, List.set_cons_zero, List.set_cons_succ]
              refine wpAnyH_take (i := 34) (v := ?_) rfl (by kernel_rfl) (by kernel_rfl) (by kernel_rfl) (fun _ _ _ h => h) (Or.inl ⟨by rfl, ?_⟩) (by assumption) ?_
              rotate_left 1
              · (intro w hSw; (try dsimp only at hSw); (try simp only [List.getElem_toArray, List.getElem_cons_succ, List.getElem_cons_zero]); go_simp) <;> (with_reducible rfl)
              try simp only [List.getElem_toArray, List.getElem_cons_succ, List.getElem_cons_zero]
              try simp only [Act.put, List.setIfInBounds_toArray, List.set_cons_zero, List.set_cons_succ]
              refine wpAnyH_take (i := 35) (v := ?_) rfl (by kernel_rfl) (by kernel_rfl) (by kernel_rfl) (fun _ _ _ h => h) (Or.inl ⟨by rfl, ?_⟩) (by assumption) ?_
              rotate_left 1
              · (intro w hSw; (try dsimp only at hSw); (try simp only [List.getElem_toArray, List.getElem_cons_succ, List.getElem_cons_zero]); go_simp) <;> (with_reducible rfl)
              try simp only [List.getElem_toArray, List.getElem_cons_succ, List.getElem_cons_zero]
              try simp only [Act.put, List.setIfInBounds_toArray, List.set_cons_zero, List.set_cons_succ]
              refine wpAnyH_take (i := 36) (v := undef) rfl (by kernel_rfl) (by kernel_rfl) (by kernel_rfl) (fun _ _ _ h => h) (Or.inr ⟨by rfl, rfl⟩) (by assumption) ?_
              simp only [List.getElem_toArray, List.getElem_cons_succ, List.getElem_cons_zero]
              try simp only [Act.put, List.setIfInBounds_toArray, List.set_cons_zero, List.set_cons_succ]
              refine wpAnyH_take (i := 37) (v := undef) rfl (by kernel_rfl) (by kernel_rfl) (by kernel_rfl) (fun _ _ _ h => h) (Or.inr ⟨by rfl, rfl⟩) (by assumption) ?_
              simp only [List.getElem_toArray, List.getElem_cons_succ, List.getElem_cons_zero]
              try simp only [Act.put, List.setIfInBounds_toArray, List.set_cons_zero, List.set_cons_succ]
              refine wpAnyH_take (i := 38) (v := undef) rfl (by kernel_rfl) (by kernel_rfl) (by kernel_rfl) (fun _ _ _ h => h) (Or.inr ⟨by rfl, rfl⟩) (by assumption) ?_
              simp only [List.getElem_toArray, List.getElem_cons_succ, List.getElem_cons_zero]
              try simp only [Act.put, List.setIfInBounds_toArray, List.set_cons_zero, List.set_cons_succ]
              refine wpAnyH_take (i := 39) (v := undef) rfl (by kernel_rfl) (by kernel_rfl) (by kernel_rfl) (fun _ _ _ h => h) (Or.inr ⟨by rfl, rfl⟩) (by assumption) ?_
              simp only [List.getElem_toArray, List.getElem_cons_succ, List.getElem_cons_zero]
              try simp only [Act.put, List.setIfInBounds_toArray, List.set_cons_zero, List.set_cons_succ]
              refine wpAnyH_take (i := 40) (v := undef) rfl (by kernel_rfl) (by kernel_rfl) (by kernel_rfl) (fun _ _ _ h => h) (Or.inr ⟨by rfl, rfl⟩) (by assumption) ?_
              simp only [List.getElem_toArray, List.getElem_cons_succ, List.getElem_cons_zero]
              try simp only [Act.put, List.setIfInBounds_toArray, List.set_cons_zero, List.set_cons_succ]
              refine wpAnyH_take (i := 41) (v := undef) rfl (by kernel_rfl) (by kernel_rfl) (by kernel_rfl) (fun _ _ _ h => h) (Or.inr ⟨by rfl, rfl⟩) (by assumption) ?_
              simp only [List.getElem_toArray, List.getElem_cons_succ, List.getElem_cons_zero]
              try simp only [Act.put, List.setIfInBounds_toArray, List.set_cons_zero, List.set_cons_succ]
              refine wpAnyH_take (i := 42) (v := ?_) rfl (by kernel_rfl) (by kernel_rfl) (by kernel_rfl) (fun _ _ _ h => h) (Or.inl ⟨by rfl, ?_⟩) (by assumption) ?_
              rotate_left 1
              · (intro w hSw; (try dsimp only at hSw); (try simp only [List.getElem_toArray, List.getElem_cons_succ, List.getElem_cons_zero]); go_simp) <;> (with_reducible rfl)
              try simp only [List.getElem_toArray, List.getElem_cons_succ, List.getElem_cons_zero]
              try simp only [Act.put, List.setIfInBounds_toArray, List.set_cons_zero, List.set_cons_succ]
              refine wpAnyH_take (i := 43) (v := ?_) rfl (by kernel_rfl) (by kernel_rfl) (by kernel_rfl) (fun _ _ _ h => h) (Or.inl ⟨by rfl, ?_⟩) (by assumption) ?_
              rotate_left 1
              · (intro w hSw; (try dsimp only at hSw); (try simp only [List.getElem_toArray, List.getElem_cons_succ, List.getElem_cons_zero]); go_simp) <;> (with_reducible rfl)
              try simp only [List.getElem_toArray, List.getElem_cons_succ, List.getElem_cons_zero]
              try simp only [Act.put, List.setIfInBounds_toArray, List.set_cons_zero, List.set_cons_succ]
              refine wpAnyH_take (i := 44) (v := undef) rfl (by kernel_rfl) (by kernel_rfl) (by kernel_rfl) (fun _ _ _ h => h) (Or.inr ⟨by rfl, rfl⟩) (by assumption) ?_
              simp only [List.getElem_toArray, List.getElem_cons_succ, List.getElem_cons_zero]
              try simp only [Act.put, List.setIfInBounds_toArray, List.set_cons_zero, List.set_cons_succ]
              refine wpAnyH_take (i := 45) (v := undef) rfl (by kernel_rfl) (by kernel_rfl) (by kernel_rfl) (fun _ _ _ h => h) (Or.inr ⟨by rfl, rfl⟩) (by assumption) ?_
              simp only [List.getElem_toArray, List.getElem_cons_succ, List.getElem_cons_zero]
              try simp only [Act.put, List.setIfInBounds_toArray, List.set_cons_zero, List.set_cons_succ]
              refine wpAnyH_take (i := 46) (v := undef) rfl (by kernel_rfl) (by kernel_rfl) (by kernel_rfl) (fun _ _ _ h => h) (Or.inr ⟨by rfl, rfl⟩) (by assumption) ?_
              simp only [List.getElem_toArray, List.getElem_cons_succ, List.getElem_cons_zero]
              try simp only [Act.put, List.setIfInBounds_toArray, List.set_cons_zero, List.set_cons_succ]
              refine wpAnyH_take (i := 47) (v := undef) rfl (by kernel_rfl) (by kernel_rfl) (by kernel_rfl) (fun _ _ _ h => h) (Or.inr ⟨by rfl, rfl⟩) (by assumption) ?_
              simp only [List.getElem_toArray, List.getElem_cons_succ, List.getElem_cons_zero]
              try simp only [Act.put, List.setIfInBounds_toArray, List.set_cons_zero, List.set_cons_succ]
              refine wpAnyH_take (i := 48) (v := undef) rfl (by kernel_rfl) (by kernel_rfl) (by kernel_rfl) (fun _ _ _ h => h) (Or.inr ⟨by rfl, rfl⟩) (by assumption) ?_
              simp only [List.getElem_toArray, List.getElem_cons_succ, List.getElem_cons_zero]
              try simp only [Act.put, List.setIfInBounds_toArray, List.set_cons_zero, List.set_cons_succ]
              refine wpAnyH_take (i := 49) (v := undef) rfl (by kernel_rfl) (by kernel_rfl) (by kernel_rfl) (fun _ _ _ h => h) (Or.inr ⟨by rfl, rfl⟩) (by assumption) ?_
              simp only [List.getElem_toArray, List.getElem_cons_succ, List.getElem_cons_zero]
              try simp only [Act.put, List.setIfInBounds_toArray, List.set_cons_zero, List.set_cons_succ]
              refine wpAnyH_take (i := 50) (v := ?_) rfl (by kernel_rfl) (by kernel_rfl) (by kernel_rfl) (fun _ _ _ h => h) (Or.inl ⟨by rfl, ?_⟩) (by assumption) ?_
              rotate_left 1
              · (intro w hSw; (try dsimp only at hSw); (try simp only [List.getElem_toArray, List.getElem_cons_succ, List.getElem_cons_zero]); go_simp) <;> (with_reducible rfl)
              try simp only [List.getElem_toArray, List.getElem_cons_succ, List.getElem_cons_zero]
              try simp only [Act.put, List.setIfInBounds_toArray, List.set_cons_zero, List.set_cons_succ]
              refine wpAnyH_take (i := 51) (v := ?_) rfl (by kernel_rfl) (by kernel_rfl) (by kernel_rfl) (fun _ _ _ h => h) (Or.inl ⟨by rfl, ?_⟩) (by assumption) ?_
              rotate_left 1
              · (intro w hSw; (try dsimp only at hSw); (try simp only [List.getElem_toArray, List.getElem_cons_succ, List.getElem_cons_zero]); go_simp) <;> (with_reducible rfl)
              try simp only [List.getElem_toArray, List.getElem_cons_succ, List.getElem_cons_zero]
              try simp only [Act.put, List.setIfInBounds_toArray, List.set_cons_zero, List.set_cons_succ]
              refine wpAnyH_done (by kernel_rfl) ?_ _
              have mv := hS.2.2.2.2.2.2.2.2.2.2.2.2.2.2.2.2.2.2.2.2.2.2.2.2
              clear hS
              go_wp2_with fail
              refine (awake_any _).mono ?_
              rintro e w5 ⟨rfl, b5⟩
              go_wp2_with fail
              go_ret
              exact ⟨ret_bool rfl, by rw [HN.out]; exact mv.bel.trans (b5.mono (by have := mv.le; have := mv.xl; have := mv.nx; omega))⟩
          have h2 : decide (100 < v2) = false := decide_eq_false g2
          cases lb with
          | true =>
            as_aux_lemma =>
              go_wp2_with fail
              refine wp_region_held_drew (S := fun w' => w'.cell? ⟨ba, oa + k * 8, none⟩ = some (.int .i64 rk) ∧ w'.cell? ⟨ba, oa + k * 8 + 1, none⟩ = some (.int .i64 oi) ∧ w'.cell? ⟨ba, oa + k * 8 + 2, none⟩ = some (.int .i64 op) ∧ w'.cell? ⟨ba, oa + k * 8 + 3, none⟩ = some (.int .i64 ot_) ∧ w'.cell? ⟨ba, oa + k * 8 + 4, none⟩ = some (.int .i64 ol) ∧ w'.cell? ⟨ba, oa + k * 8 + 5, none⟩ = some (.int .i64 ob) ∧ w'.cell? ⟨ba, oa + k * 8 + 6, none⟩ = some (.int .i64 or_) ∧ w'.cell? ⟨ba, oa + k * 8 + 7, none⟩ = some (.string olb) ∧ w'.cell? ⟨N, 0, none⟩ = some (.int .i64 rk) ∧ w'.cell? ⟨N, 1, none⟩ = some (.int .i64 ri) ∧ w'.cell? ⟨N, 2, none⟩ = some (.int .i64 rp) ∧ w'.cell? ⟨N, 3, none⟩ = some (.int .i64 rt_) ∧ w'.cell? ⟨N, 4, none⟩ = some (.int .i64 rl) ∧ w'.cell? ⟨N, 5, none⟩ = some (.int .i64 rb) ∧ w'.cell? ⟨N, 6, none⟩ = some (.int .i64 rr) ∧ w'.cell? ⟨N, 7, none⟩ = some (.string rlb) ∧ w'.cell? ⟨X, 0, none⟩ = some (.int .i64 rk) ∧ w'.cell? ⟨X, 1, none⟩ = some (.int .i64 ri) ∧ w'.cell? ⟨X, 2, none⟩ = some (.int .i64 rp) ∧ w'.cell? ⟨X, 3, none⟩ = some (.int .i64 T) ∧ w'.cell? ⟨X, 4, none⟩ = some (.int .i64 L) ∧ w'.cell? ⟨X, 5, none⟩ = some (.int .i64 Bo) ∧ w'.cell? ⟨X, 6, none⟩ = some (.int .i64 R) ∧ w'.cell? ⟨X, 7, none⟩ = some (.string rlb) ∧ I.Mv N X S nl (⟨rk, ri, rp, rt_, rl, rb, rr, rlb⟩ : I.Rg) (⟨rk, ri, rp, T, L, Bo, R, rlb⟩ : I.Rg) (.slice (some ⟨g, 0, none⟩) nl cg) ((⟨rk, 0, rp, rt_, rl, rb, rr, rlb⟩ : I.Rg) :: ot) w w') (by kernel_rfl) S1.out (fun hHeld => ?_)
              refine wpAnyH_take (i := 0) (v := ?_) rfl (by kernel_rfl) (by kernel_rfl) (by kernel_rfl) (fun _ _ _ h => h) (Or.inl ⟨by rfl, ?_⟩) (by assumption) ?_
              rotate_left 1
              · (intro w hSw; (try dsimp only at hSw); (try simp only [List.getElem_toArray, List.getElem_cons_succ, List.getElem_cons_zero]); go_simp) <;> (with_reducible rfl)
              try simp only [List.getElem_toArray, List.getElem_cons_succ, List.getElem_cons_zero]
              try simp only [Act.put, List.setIfInBounds_toArray, List.set_cons_zero, List.set_cons_succ]
              refine wpAnyH_take (i := 1) (v := ?_) rfl (by kernel_rfl) (by kernel_rfl) (by kernel_rfl) (fun _ _ _ h => h) (Or.inl ⟨by rfl, ?_⟩) (by assumption) ?_
              rotate_left 1
              · (intro w hSw; (try dsimp only at hSw); (try simp only [List.getElem_toArray, List.getElem_cons_succ, List.getElem_cons_zero]); go_simp) <;> (with_reducible rfl)
              try simp only [List.getElem_toArray, List.getElem_cons_succ, List.getElem_cons_zero]
              try simp only [Act.put, List.setIfInBounds_toArray, List.set_cons_zero, List.set_cons_succ]
              refine wpAnyH_take (i := 2) (v := ?_) rfl (by kernel_rfl) (by kernel_rfl) (by kernel_rfl) (fun _ _ _ h => h) (Or.inl ⟨by rfl, ?_⟩) (by assumption) ?_
              rotate_left 1
              · (intro w hSw; (try dsimp only at hSw); (try simp only [List.getElem_toArray, List.getElem_cons_succ, List.getElem_cons_zero]); go_simp) <;> (with_reducible rfl)
              try simp only [List.getElem_toArray, List.getElem_cons_succ, List.getElem_cons_zero]
              try simp only [Act.put, List.setIfInBounds_toArray, List.set_cons_zero, List.set_cons_succ]
              refine wpAnyH_take (i := 3) (v := ?_) rfl (by kernel_rfl) (by kernel_rfl) (by kernel_rfl) (fun _ _ _ h => h) (Or.inl ⟨by rfl, ?_⟩) (by assumption) ?_
              rotate_left 1
              · (intro w hSw; (try dsimp only at hSw); (try simp only [List.getElem_toArray, List.getElem_cons_succ, List.getElem_cons_zero]); go_simp) <;> (with_reducible rfl)
              try simp only [List.getElem_toArray, List.getElem_cons_succ, List.getElem_cons_zero]
              try simp only [Act.put, List.setIfInBounds_toArray, List.set_cons_zero, List.set_cons_succ]
              refine wpAnyH_take (i := 4) (v := ?_) rfl (by kernel_rfl) (by kernel_rfl) (by kernel_rfl) (fun _ _ _ h => h) (Or.inl ⟨by rfl, ?_⟩) (by assumption) ?_
              rotate_left 1
              · (intro w hSw; (try dsimp only at hSw); (try simp only [List.getElem_toArray, List.getElem_cons_succ, List.getElem_cons_zero]); go_simp) <;> (with_reducible rfl)
              try simp only [List.getElem_toArray, List.getElem_cons_succ, List.getElem_cons_zero]
              try simp only [Act.put, List.setIfInBounds_toArray, List.set_cons_zero, List.set_cons_succ]
              refine wpAnyH_take (i := 5) (v := ?_) rfl (by kernel_rfl) (by kernel_rfl) (by kernel_rfl) (fun _ _ _ h => h) (Or.inl ⟨by rfl, ?_⟩) (by assumption) ?_
              rotate_left 1
              · (intro w hSw; (try dsimp only at hSw); (try simp only [List.getElem_toArray, List.getElem_cons_succ, List.getElem_cons_zero]); go_simp) <;> (with_reducible rfl)
              try simp only [List.getElem_toArray, List.getElem_cons_succ, List.getElem_cons_zero]
              try simp only [Act.put, List.setIfInBounds_toArray, List.set_cons_zero, List.set_cons_succ]
              refine wpAnyH_take (i := 6) (v := ?_) rfl (by kernel_rfl) (by kernel_rfl) (by kernel_rfl) (fun _ _ _ h => h) (Or.inl ⟨by rfl, ?_⟩) (by assumption) ?_
              rotate_left 1
              · (intro w hSw; (try dsimp only at hSw); (try simp only [List.getElem_toArray, List.getElem_cons_succ, List.getElem_cons_zero]); go_simp) <;> (with_reducible rfl)
              try simp only [List.getElem_toArray, List.getElem_cons_succ, List.getElem_cons_zero]
              try simp only [Act.put, List.setIfInBounds_toArray, List.set_cons_zero, List.set_cons_succ]
              refine wpAnyH_take (i := 7) (v := ?_) rfl (by kernel_rfl) (by kernel_rfl) (by kernel_rfl) (fun _ _ _ h => h) (Or.inl ⟨by rfl, ?_⟩) (by assumption) ?_
              rotate_left 1
              · (intro w hSw; (try dsimp only at hSw); (try simp only [List.getElem_toArray, List.getElem_cons_succ, List.getElem_cons_zero]); go_simp) <;> (with_reducible rfl)
              try simp only [List.getElem_toArray, List.getElem_cons_succ, List.getElem_cons_zero]
              try simp only [Act.put, List.setIfInBounds_toArray, List.set_cons_zero, List.set_cons_succ]
              refine wpAnyH_take (i := 8) (v := ?_) rfl (by kernel_rfl) (by kernel_rfl) (by kernel_rfl) (fun _ _ _ h => h) (Or.inl ⟨by rfl, ?_⟩) (by assumption) ?_
              rotate_left 1
              · (intro w hSw; (try dsimp only at hSw); (try simp only [List.getElem_toArray, List.getElem_cons_succ, List.getElem_cons_zero]); go_simp) <;> (with_reducible rfl)
              try simp only [List.getElem_toArray, List.getElem_cons_succ, List.getElem_cons_zero]
              try simp only [Act.put, List.setIfInBounds_toArray, List.set_cons_zero, List.set_cons_succ]
              refine wpAnyH_take (i := 9) (v := ?_) rfl (by kernel_rfl) (by kernel_rfl) (by kernel_rfl) (fun _ _ _ h => h) (Or.inl ⟨by rfl, ?_⟩) (by assumption) ?_
              rotate_left 1
              · (intro w hSw; (try dsimp only at hSw); (try simp only [List.getElem_toArray, List.getElem_cons_succ, List.getElem_cons_zero]); go_simp) <;> (with_reducible rfl)
              try simp only [List.getElem_toArray, List.getElem_cons_succ, List.getElem_cons_zero]
              try simp only [Act.put, List.setIfInBounds_toArray, List.set_cons_zero, List.set_cons_succ]
              refine wpAnyH_take (i := 10) (v := ?_) rfl (by kernel_rfl) (by kernel_rfl) (by kernel_rfl) (fun _ _ _ h => h) (Or.inl ⟨by rfl, ?_⟩) (by assumption) ?_
              rotate_left 1
              · (intro w hSw; (try dsimp only at hSw); (try simp only [List.getElem_toArray, List.getElem_cons_succ, List.getElem_cons_zero]); go_simp) <;> (with_reducible rfl)
              try simp only [List.getElem_toArray, List.getElem_cons_succ, List.getElem_cons_zero]
              try simp only [Act.put, List.setIfInBounds_toArray, List.set_cons_zero, List.set_cons_succ]
              refine wpAnyH_take (i := 11) (v := ?_) rfl (by kernel_rfl) (by kernel_rfl) (by kernel_rfl) (fun _ _ _ h => h) (Or.inl ⟨by rfl, ?_⟩) (by assumption) ?_
              rotate_left 1
              · (intro w hSw; (try dsimp only at hSw); (try simp only [List.getElem_toArray, List.getElem_cons_succ, List.getElem_cons_zero]); go_simp) <;> (with_reducible rfl)
              try simp only [List.getElem_toArray, List.getElem_cons_succ, List.getElem_cons_zero]
              try simp only [Act.put, List.setIfInBounds_toArray, List.set_cons_zero, List.set_cons_succ]
              refine wpAnyH_take (i := 12) (v := ?_) rfl (by kernel_rfl) (by kernel_rfl) (by kernel_rfl) (fun _ _ _ h => h) (Or.inl ⟨by rfl, ?_⟩) (by assumption) ?_
              rotate_left 1
              · (intro w hSw; (try dsimp only at hSw); (try simp only [List.getElem_toArray, List.getElem_cons_succ, List.getElem_cons_zero]); go_simp) <;> (with_reducible rfl)
              try simp only [List.getElem_toArray, List.getElem_cons_succ, List.getElem_cons_zero]
              try simp only [Act.put, List.setIfInBounds_toArray, List.set_cons_zero, List.set_cons_succ]
              refine wpAnyH_take (i := 13) (v := ?_) rfl (by kernel_rfl) (by kernel_rfl) (by kernel_rfl) (fun _ _ _ h => h) (Or.inl ⟨by rfl, ?_⟩) (by assumption) ?_
              rotate_left 1
              · (intro w hSw; (try dsimp only at hSw); (try simp only [List.getElem_toArray, List.getElem_cons_succ, List.getElem_cons_zero]); go_simp) <;> (with_reducible rfl)
              try simp only [List.getElem_toArray, List.getElem_cons_succ, List.getElem_cons_zero]
              try simp only [Act.put, List.setIfInBounds_toArray, List.set_cons_zero, List.set_cons_succ]
              refine wpAnyH_ready (rs := [14]) (by kernel_rfl) (by simp) ?_
              refine AllReadyH.cons rfl (fun K hK => ?_) AllReadyH.nil
              simp only [List.getElem_toArray, List.getElem_cons_succ, List.getElem_cons_zero]
              go_simp
              go_at_call 15
              (with_reducible refine (L1.out _ ?_).mono ?_)
              · assumption
              rintro e w' ⟨rfl, hS⟩
              try go_wp2_with fail
              refine hK.out _ _ hS (fun hHeld => ?_)
              clear hK K
              try simp only [Act.put, List.setIfInBounds_toArray, List.set_cons_zero, List.set_cons_succ]
              refine wpAnyH_take (i := 15) (v := ?_) rfl (by kernel_rfl) (by kernel_rfl) (by kernel_rfl) (fun _ _ _ h => h) (Or.inl ⟨by rfl, ?_⟩) (by assumption) ?_
              rotate_left 1
              · (intro w hSw; (try dsimp only at hSw); (try simp only [List.getElem_toArray, List.getElem_cons_succ, List.getElem_cons_zero]); go_simp) <;> (with_reducible rfl)
              try simp only [List.getElem_toArray, List.getElem_cons_succ, List.getElem_cons_zero]
              try simp only [Act.put, List.setIfInBounds_toArray, List.set_cons_zero, List.set_cons_succ]
              refine wpAnyH_take (i := 16) (v := ?_) rfl (by kernel_rfl) (by kernel_rfl) (by kernel_rfl) (fun _ _ _ h => h) (Or.inl ⟨by rfl, ?_⟩) (by assumption) ?_
              rotate_left 1
              · (intro w hSw; (try dsimp only at hSw); (try simp only [List.getElem_toArray, List.getElem_cons_succ, List.getElem_cons_zero]); go_simp) <;> (with_reducible rfl)
              try simp only [List.getElem_toArray, List.getElem_cons_succ, List.getElem_cons_zero]
              try simp only [Act.put, List.setIfInBounds_toArray, List.set_cons_zero, List.set_cons_succ]
              refine wpAnyH_take (i := 17) (v := ?_) rfl (by kernel_rfl) (by kernel_rfl) (by kernel_rfl) (fun _ _ _ h => h) (Or.inl ⟨by rfl, ?_⟩) (by assumption) ?_
              rotate_left 1
              · (intro w hSw; (try dsimp only at hSw); (try simp only [List.getElem_toArray, List.getElem_cons_succ, List.getElem_cons_zero]); go_simp) <;> (with_reducible rfl)
              try simp only [List.getElem_toArray, List.getElem_cons_succ, List.getElem_cons_zero]
              try simp only [Act.put, List.setIfInBounds_toArray, List.set_cons_zero, List.set_cons_succ]
              refine wpAnyH_take (i := 18) (v := ?_) rfl (by kernel_rfl) (by kernel_rfl) (by kernel_rfl) (fun _ _ _ h => h) (Or.inl ⟨by rfl, ?_⟩) (by assumption) ?_
              rotate_left 1
              · (intro w hSw; (try dsimp only at hSw); (try simp only [List.getElem_toArray, List.getElem_cons_succ, List.getElem_cons_zero]); go_simp) <;> (with_reducible rfl)
              try simp only [List.getElem_toArray, List.getElem_cons_succ, List.getElem_cons_zero]
              try simp only [Act.put, List.setIfInBounds_toArray, List.set_cons_zero, List.set_cons_succ]
              refine wpAnyH_take (i := 19) (v := ?_) rfl (by kernel_rfl) (by kernel_rfl) (by kernel_rfl) (fun _ _ _ h => h) (Or.inl ⟨by rfl, ?_⟩) (by assumption) ?_
              rotate_left 1
              · (intro w hSw; (try dsimp only at hSw); (try simp only [List.getElem_toArray, List.getElem_cons_succ, List.getElem_cons_zero]); go_simp) <;> (with_reducible rfl)
              try simp only [List.getElem_toArray, List.getElem_cons_succ, List.getElem_cons_zero]
              try simp only [Act.put, List.setIfInBounds_toArray, List.set_cons_zero, List.set_cons_succ]
              refine wpAnyH_take (i := 20) (v := ?_) rfl (by kernel_rfl) (by kernel_rfl) (by kernel_rfl) (fun _ _ _ h => h) (Or.inl ⟨by rfl, ?_⟩) (by assumption) ?_
              rotate_left 1
              · (intro w hSw; (try dsimp only at hSw); (try simp only [List.getElem_toArray, List.getElem_cons_succ, List.getElem_cons_zero]); go_simp) <;> (with_reducible rfl)
              try simp only [List.getElem_toArray, List.getElem_cons_succ, List.getElem_cons_zero]
              try simp only [Act.put, List.setIfInBounds_toArray, List.set_cons_zero, List.set_cons_succ]
              refine wpAnyH_take (i := 21) (v := ?_) rfl (by kernel_rfl) (by kernel_rfl) (by kernel_rfl) (fun _ _ _ h => h) (Or.inl ⟨by rfl, ?_⟩) (by assumption) ?_
              rotate_left 1
              · (intro w hSw; (try dsimp only at hSw); (try simp only [List.getElem_toArray, List.getElem_cons_succ, List.getElem_cons_zero]); go_simp) <;> (with_reducible rfl)
              try simp only [List.getElem_toArray, List.getElem_cons_succ, List.getElem_cons_zero]
              try simp only [Act.put, List.setIfInBounds_toArray, List.set_cons_zero, List.set_cons_succ]
              refine wpAnyH_ready (rs := [22]) (by kernel_rfl) (by simp) ?_
              refine AllReadyH.cons rfl (fun K hK => ?_) AllReadyH.nil
              simp only [List.getElem_toArray, List.getElem_cons_succ, List.getElem_cons_zero]
              go_simp
              go_at_call 15
              (with_reducible refine (L2.out _ ?_).mono ?_)
              · assumption
              rintro e w' ⟨rfl, hS⟩
              try go_wp2_with fail
              refine hK.out _ _ hS (fun hHeld => ?_)
              clear hK K
              try simp only [Act.put, List.setIfInBounds_toArray, List.set_cons_zero, List.set_cons_succ]
              refine wpAnyH_take (i := 23) (v := ?_) rfl (by kernel_rfl) (by kernel_rfl) (by kernel_rfl) (fun _ _ _ h => h) (Or.inl ⟨by rfl, ?_⟩) (by assumption) ?_
              rotate_left 1
              · (intro w hSw; (try dsimp only at hSw); (try simp only [List.getElem_toArray, List.getElem_cons_succ, List.getElem_cons_zero]); go_simp) <;> (with_reducible rfl)
              try simp only [List.getElem_toArray, List.getElem_cons_succ, List.getElem_cons_zero]
              try simp only [Act.put, List.setIfInBounds_toArray, List.set_cons_zero, List.set_cons_succ]
              refine wpAnyH_take (i := 24) (v := ?_) rfl (by kernel_rfl) (by kernel_rfl) (by kernel_rfl) (fun _ _ _ h => h) (Or.inl ⟨by rfl, ?_⟩) (by assumption) ?_
              rotate_left 1
              · (intro w hSw; (try dsimp only at hSw); (try simp only [List.getElem_toArray, List.getElem_cons_succ, List.getElem_cons_zero]); go_simp) <;> (with_reducible rfl)
              try simp only [List.getElem_toArray, List.getElem_cons_succ, List.getElem_cons_zero]
              try simp only [Act.put, List.setIfInBounds_toArray, List.set_cons_zero, List.set_cons_succ]
              refine wpAnyH_take (i := 25) (v := ?_) rfl (by kernel_rfl) (by kernel_rfl) (by kernel_rfl) (fun _ _ _ h => h) (Or.inl ⟨by rfl, ?_⟩) (by assumption) ?_
              rotate_left 1
              · (intro w hSw; (try dsimp only at hSw); (try simp only [List.getElem_toArray, List.getElem_cons_succ, List.getElem_cons_zero]); go_simp) <;> (with_reducible rfl)
              try simp only [List.getElem_toArray, List.getElem_cons_succ, List.getElem_cons_zero]
              try simp only [Act.put, List.setIfInBounds_toArray, List.set_cons_zero, List.set_cons_succ]
              refine wpAnyH_take (i := 26) (v := ?_) rfl (by kernel_rfl) (by kernel_rfl) (by kernel_rfl) (fun _ _ _ h => h) (Or.inl ⟨by rfl, ?_⟩) (by assumption) ?_
              rotate_left 1
              · (intro w hSw; (try dsimp only at hSw); (try simp only [List.getElem_toArray, List.getElem_cons_succ, List.getElem_cons_zero]); go_simp) <;> (with_reducible rfl)
              try simp only [List.getElem_toArray, List.getElem_cons_succ, List.getElem_cons_zero]
              try simp only [Act.put, List.setIfInBounds_toArray, List.set_cons_zero, List.set_cons_succ]
              refine wpAnyH_take (i := 27) (v := ?_) rfl (by kernel_rfl) (by kernel_rfl) (by kernel_rfl) (fun _ _ _ h => h) (Or.inl ⟨by rfl, ?_⟩) (by assumption) ?_
              rotate_left 1
              · (intro w hSw; (try dsimp only at hSw); (try simp only [List.getElem_toArray, List.getElem_cons_succ, List.getElem_cons_zero]); go_simp) <;> (with_reducible rfl)
              try simp only [List.getElem_toArray, List.getElem_cons_succ, List.getElem_cons_zero]
              try simp only [Act.put, List.setIfInBounds_toArray, List.set_cons_zero, List.set_cons_succ]
              refine wpAnyH_take (i := 28) (v := ?_) rfl (by kernel_rfl) (by kernel_rfl) (by kernel_rfl) (fun _ _ _ h => h) (Or.inl ⟨by rfl, ?_⟩) (by assumption) ?_
              rotate_left 1
              · (intro w hSw; (try dsimp only at hSw); (try simp only [List.getElem_toArray, List.getElem_cons_succ, List.getElem_cons_zero]); go_simp) <;> (with_reducible rfl)
              try simp only [List.getElem_toArray, List.getElem_cons_succ, List.getElem_cons_zero]
              try simp only [Act.put, List.setIfInBounds_toArray, List.set_cons_zero, List.set_cons_succ]
              refine wpAnyH_take (i := 29) (v := ?_) rfl (by kernel_rfl) (by kernel_rfl) (by kernel_rfl) (fun _ _ _ h => h) (Or.inl ⟨by rfl, ?_⟩) (by assumption) ?_
              rotate_left 1
              · (intro w hSw; (try dsimp only at hSw); (try simp only [List.getElem_toArray, List.getElem_cons_succ, List.getElem_cons_zero]); go_simp) <;> (with_reducible rfl)
              try simp only [List.getElem_toArray, List.getElem_cons_succ, List.getElem_cons_zero]
              try simp only [Act.put, List.setIfInBounds_toArray, List.set_cons_zero, List.set_cons_succ]
              refine wpAnyH_take (i := 30) (v := ?_) rfl (by kernel_rfl) (by kernel_rfl) (by kernel_rfl) (fun _ _ _ h => h) (Or.inl ⟨by rfl, ?_⟩) (by assumption) ?_
              rotate_left 1
              · (intro w hSw; (try dsimp only at hSw); (try simp only [List.getElem_toArray, List.getElem_cons_succ, List.getElem_cons_zero]); go_simp) <;> (with_reducible rfl)
              try simp only [List.getElem_toArray, List.getElem_cons_succ, List.getElem_cons_zero]
              try simp only [Act.put, List.setIfInBounds_toArray, List.set_cons_zero, List.set_cons_succ]
              refine wpAnyH_take (i := 31) (v := ?_) rfl (by kernel_rfl) (by kernel_rfl) (by kernel_rfl) (fun _ _ _ h => h) (Or.inl ⟨by rfl, ?_⟩) (by assumption) ?_
              rotate_left 1
              · (intro w hSw; (try dsimp only at hSw); (try simp only [List.getElem_toArray, List.getElem_cons_succ, List.getElem_cons_zero]); go_simp) <;> (with_reducible rfl)
              try simp only [List.getElem_toArray, List.getElem_cons_succ, List.getElem_cons_zero]
              try simp only [Act.put, List.setIfInBounds_toArray, List.set_cons_zero, List.set_cons_succ]
              refine wpAnyH_take (i := 32) (v := ?_) rfl (by kernel_rfl) (by kernel_rfl) (by kernel_rfl) (fun _ _ _ h => h) (Or.inl ⟨by rfl, ?_⟩) (by assumption) ?_
              rotate_left 1
              · (intro w hSw; (try dsimp only at hSw); (try simp only [List.getElem_toArray, List.getElem_cons_succ, List.getElem_cons_zero]); go_simp) <;> (with_reducible rfl)
              try simp only [List.getElem_toArray, List.getElem_cons_succ, List.getElem_cons_zero]
              try simp only [Act.put, List.setIfInBounds_toArray, List.set_cons_zero, List.set_cons_succ]
              refine wpAnyH_take (i := 33) (v := ?_) rfl (by kernel_rfl) (by kernel_rfl) (by kernel_rfl) (fun _ _ _ h => h) (Or.inl ⟨by rfl, ?_⟩) (by assumption) ?_
              rotate_left 1
              · (intro w hSw; (try dsimp only at hSw); (try simp only [List.getElem_toArray, List.getElem_cons_succ, List.getElem_cons_zero]); go_simp) <;> (with_reducible rfl)
              try simp only [List.getElem_toArray, List.getElem_cons_succ, List.getElem_cons_zero]
              try simp only [Act.put, List.setIfInBounds_toArray, List.set_cons_zero, List.set_cons_succ]
              refine wpAnyH_take (i := 34) (v := ?_) rfl (by kernel_rfl) (by kernel_rfl) (by kernel_rfl) (fun _ _ _ h => h) (Or.inl ⟨by rfl, ?_⟩) (by assumption) ?_
              rotate_left 1
              · (intro w hSw; (try dsimp only at hSw); (try simp only [List.getElem_toArray, List.getElem_cons_succ, List.getElem_cons_zero]); go_simp) <;> (with_reducible rfl)
              try simp only [List.getElem_toArray, List.getElem_cons_succ, List.getElem_cons_zero]
              try simp only [Act.put, List.setIfInBounds_toArray, List.set_cons_zero, List.set_cons_succ]
              refine wpAnyH_take (i := 35) (v := ?_) rfl (by kernel_rfl) (by kernel_rfl) (by kernel_rfl) (fun _ _ _ h => h) (Or.inl ⟨by rfl, ?_⟩) (by assumption) ?_
              rotate_left 1
              · (intro w hSw; (try dsimp only at hSw); (try simp only [List.getElem_toArray, List.getElem_cons_succ, List.getElem_cons_zero]); go_simp) <;> (with_reducible rfl)
              try simp only [List.getElem_toArray, List.getElem_cons_succ, List.getElem_cons_zero]
              try simp only [Act.put, List.setIfInBounds_toArray, List.set_cons_zero, List.set_cons_succ]
              refine wpAnyH_take (i := 36) (v := undef) rfl (by kernel_rfl) (by kernel_rfl) (by kernel_rfl) (fun _ _ _ h => h) (Or.inr ⟨by rfl, rfl⟩) (by assumption) ?_
              simp only [List.getElem_toArray, List.getElem_cons_succ, List.getElem_cons_zero]
              try simp only [Act.put, List.setIfInBounds_toArray, List.set_cons_zero, List.set_cons_succ]
              refine wpAnyH_take (i := 37) (v := undef) rfl (by kernel_rfl) (by kernel_rfl) (by kernel_rfl) (fun _ _ _ h => h) (Or.inr ⟨by rfl, rfl⟩) (by assumption) ?_
              simp only [List.getElem_toArray, List.getElem_cons_succ, List.getElem_cons_zero]
              try simp only [Act.put, List.setIfInBounds_toArray, List.set_cons_zero, List.set_cons_succ]
              refine wpAnyH_take (i := 38) (v := undef) rfl (by kernel_rfl) (by kernel_rfl) (by kernel_rfl) (fun _ _ _ h => h) (Or.inr ⟨by rfl, rfl⟩) (by assumption) ?_
              simp only [List.getElem_toArray, List.getElem_cons_succ, List.getElem_cons_zero]
              try simp only [Act.put, List.setIfInBounds_toArray, List.set_cons_zero, List.set_cons_succ]
              refine wpAnyH_take (i := 39) (v := undef) rfl (by kernel_rfl) (by kernel_rfl) (by kernel_rfl) (fun _ _ _ h => h) (Or.inr ⟨by rfl, rfl⟩) (by assumption) ?_
              simp only [List.getElem_toArray, List.getElem_cons_succ, List.getElem_cons_zero]
              try simp only [Act.put, List.setIfInBounds_toArray, List.set_cons_zero, List.set_cons_succ]
              refine wpAnyH_take (i := 40) (v := undef) rfl (by kernel_rfl) (by kernel_rfl) (by kernel_rfl) (fun _ _ _ h => h) (Or.inr ⟨by rfl, rfl⟩) (by assumption) ?_
              simp only [List.getElem_toArray, List.getElem_cons_succ, List.getElem_cons_zero]
              try simp only [Act.put, List.setIfInBounds_toArray, List.set_cons_zero, List.set_cons_succ]
              refine wpAnyH_take (i := 41) (v := undef) rfl (by kernel_rfl) (by kernel_rfl) (by kernel_rfl) (fun _ _ _ h => h) (Or.inr ⟨by rfl, rfl⟩) (by assumption) ?_
              simp only [List.getElem_toArray, List.getElem_cons_succ, List.getElem_cons_zero]
              try simp only [Act.put, List.setIfInBounds_toArray, List.set_cons_zero, List.set_cons_succ]
              refine wpAnyH_take (i := 42) (v := ?_) rfl (by kernel_rfl) (by kernel_rfl) (by kernel_rfl) (fun _ _ _ h => h) (Or.inl ⟨by rfl, ?_⟩) (by assumption) ?_
              rotate_left 1
              · (intro w hSw; (try dsimp only at hSw); (try simp only [List.getElem_toArray, List.getElem_cons_succ, List.getElem_cons_zero]); go_simp) <;> (with_reducible rfl)
              try simp only [List.getElem_toArray, List.getElem_cons_succ, List.getElem_cons_zero]
              try simp only [Act.put, List.setIfInBounds_toArray, List.set_cons_zero, List.set_cons_succ]
              refine wpAnyH_take (i := 43) (v := ?_) rfl (by kernel_rfl) (by kernel_rfl) (by kernel_rfl) (fun _ _ _ h => h) (Or.inl ⟨by rfl, ?_⟩) (by assumption) ?_
              rotate_left 1
              · (intro w hSw; (try dsimp only at hSw); (try simp only [List.getElem_toArray, List.getElem_cons_succ, List.getElem_cons_zero]); go_simp) <;> (with_reducible rfl)
              try simp only [List.getElem_toArray, List.getElem_cons_succ, List.getElem_cons_zero]
              try simp only [Act.put, List.setIfInBounds_toArray, List.set_cons_zero, List.set_cons_succ]
              refine wpAnyH_take (i := 44) (v := undef) rfl (by kernel_rfl) (by kernel_rfl) (by kernel_rfl) (fun _ _ _ h => h) (Or.inr ⟨by rfl, rfl⟩) (by assumption) ?_
              simp only [List.getElem_toArray, List.getElem_cons_succ, List.getElem_cons_zero]
              try simp only [Act.put, List.setIfInBounds_toArray, List.set_cons_zero, List.set_cons_succ]
              refine wpAnyH_take (i := 45) (v := undef) rfl (by kernel_rfl) (by kernel_rfl) (by kernel_rfl) (fun _ _ _ h => h) (Or.inr ⟨by rfl, rfl⟩) (by assumption) ?_
              simp only [List.getElem_toArray, List.getElem_cons_succ, List.getElem_cons_zero]
              try simp only [Act.put, List.setIfInBounds_toArray, List.set_cons_zero, List.set_cons_succ]
              refine wpAnyH_take (i := 46) (v := undef) rfl (by kernel_rfl) (by kernel_rfl) (by kernel_rfl) (fun _ _ _ h => h) (Or.inr ⟨by rfl, rfl⟩) (by assumption) ?_
              simp only [List.getElem_toArray, List.getElem_cons_succ, List.getElem_cons_zero]
              try simp only [Act.put, List.setIfInBounds_toArray, List.set_cons_zero, List.set_cons_succ]
              refine wpAnyH_take (i := 47) (v := undef) rfl (by kernel_rfl) (by kernel_rfl) (by kernel_rfl) (fun _ _ _ h => h) (Or.inr ⟨by rfl, rfl⟩) (by assumption) ?_
              simp only [List.getElem_toArray, List.getElem_cons_succ, List.getElem_cons_zero]
              try simp only [Act.put, List.setIfInBounds_toArray, List.set_cons_zero, List.set_cons_succ]
              refine wpAnyH_take (i := 48) (v := undef) rfl (by kernel_rfl) (by kernel_rfl) (by kernel_rfl) (fun _ _ _ h => h) (Or.inr ⟨by rfl, rfl⟩) (by assumption) ?_
              simp only [List.getElem_toArray, List.getElem_cons_succ, List.getElem_cons_zero]
              try simp only [Act.put, List.setIfInBounds_toArray, List.set_cons_zero, List.set_cons_succ]
              refine wpAnyH_take (i := 49) (v := undef) rfl (by kernel_rfl) (by kernel_rfl) (by kernel_rfl) (fun _ _ _ h => h) (Or.inr ⟨by rfl, rfl⟩) (by assumption) ?_
              simp only [List.getElem_toArray, List.getElem_cons_succ, List.getElem_cons_zero]
              try simp only [Act.put, List.setIfInBounds_toArray, List.set_cons_zero, List.set_cons_succ]
              refine wpAnyH_take (i := 50) (v := ?_) rfl (by kernel_rfl) (by kernel_rfl) (by kernel_rfl) (fun _ _ _ h => h) (Or.inl ⟨by rfl, ?_⟩) (by assumption) ?_
              rotate_left 1
              · (intro w hSw; (try dsimp only at hSw); (try simp only [List.getElem_toArray, List.getElem_cons_succ, List.getElem_cons_zero]); go_simp) <;> (with_reducible rfl)
              try simp only [List.getElem_toArray, List.getElem_cons_succ, List.getElem_cons_zero]
              try simp only [Act.put, List.setIfInBounds_toArray, List.set_cons_zero, List.set_cons_succ]
              refine wpAnyH_take (i := 51) (v := ?_) rfl (by kernel_rfl) (by kernel_rfl) (by kernel_rfl) (fun _ _ _ h => h) (Or.inl ⟨by rfl, ?_⟩) (by assumption) ?_
              rotate_left 1
              · (intro w hSw; (try dsimp only at hSw); (try simp only [List.getElem_toArray, List.getElem_cons_succ, List.getElem_cons_zero]); go_simp) <;> (with_reducible rfl)
              try simp only [List.getElem_toArray, List.getElem_cons_succ, List.getElem_cons_zero]
              try simp only [Act.put, List.setIfInBounds_toArray, List.set_cons_zero, List.set_cons_succ]
              refine wpAnyH_done (by kernel_rfl) ?_ _
              have mv := hS.2.2.2.2.2.2.2.2.2.2.2.2.2.2.2.2.2.2.2.2.2.2.2.2
              clear hS
              go_wp2_with fail
              refine (awake_any _).mono ?_
              rintro e w5 ⟨rfl, b5⟩
              go_wp2_with fail
              go_ret
              exact ⟨ret_bool rfl, by rw [HN.out]; exact mv.bel.trans (b5.mono (by have := mv.le; have := mv.xl; have := mv.nx; omega))⟩
          | false =>
          cases v3 with
          | true =>
            as_aux_lemma =>
              go_wp2_with fail
              refine wp_region_held_drew (S := fun w' => w'.cell? ⟨ba, oa + k * 8, none⟩ = some (.int .i64 rk) ∧ w'.cell? ⟨ba, oa + k * 8 + 1, none⟩ = some (.int .i64 oi) ∧ w'.cell? ⟨ba, oa + k * 8 + 2, none⟩ = some (.int .i64 op) ∧ w'.cell? ⟨ba, oa + k * 8 + 3, none⟩ = some (.int .i64 ot_) ∧ w'.cell? ⟨ba, oa + k * 8 + 4, none⟩ = some (.int .i64 ol) ∧ w'.cell? ⟨ba, oa + k * 8 + 5, none⟩ = some (.int .i64 ob) ∧ w'.cell? ⟨ba, oa + k * 8 + 6, none⟩ = some (.int .i64 or_) ∧ w'.cell? ⟨ba, oa + k * 8 + 7, none⟩ = some (.string olb) ∧ w'.cell? ⟨N, 0, none⟩ = some (.int .i64 rk) ∧ w'.cell? ⟨N, 1, none⟩ = some (.int .i64 ri) ∧ w'.cell? ⟨N, 2, none⟩ = some (.int .i64 rp) ∧ w'.cell? ⟨N, 3, none⟩ = some (.int .i64 rt_) ∧ w'.cell? ⟨N, 4, none⟩ = some (.int .i64 rl) ∧ w'.cell? ⟨N, 5, none⟩ = some (.int .i64 rb) ∧ w'.cell? ⟨N, 6, none⟩ = some (.int .i64 rr) ∧ w'.cell? ⟨N, 7, none⟩ = some (.string rlb) ∧ w'.cell? ⟨X, 0, none⟩ = some (.int .i64 rk) ∧ w'.cell? ⟨X, 1, none⟩ = some (.int .i64 ri) ∧ w'.cell? ⟨X, 2, none⟩ = some (.int .i64 rp) ∧ w'.cell? ⟨X, 3, none⟩ = some (.int .i64 T) ∧ w'.cell? ⟨X, 4, none⟩ = some (.int .i64 L) ∧ w'.cell? ⟨X, 5, none⟩ = some (.int .i64 Bo) ∧ w'.cell? ⟨X, 6, none⟩ = some (.int .i64 R) ∧ w'.cell? ⟨X, 7, none⟩ = some (.string rlb) ∧ I.Mv N X S nl (⟨rk, ri, rp, rt_, rl, rb, rr, rlb⟩ : I.Rg) (⟨rk, ri, rp, T, L, Bo, R, rlb⟩ : I.Rg) (.slice (some ⟨g, 0, none⟩) nl cg) ((⟨rk, 0, rp, rt_, rl, rb, rr, rlb⟩ : I.Rg) :: ot) w w') (by kernel_rfl) S1.out (fun hHeld => ?_)
              refine wpAnyH_take (i := 0) (v := ?_) rfl (by kernel_rfl) (by kernel_rfl) (by kernel_rfl) (fun _ _ _ h => h) (Or.inl ⟨by rfl, ?_⟩) (by assumption) ?_
              rotate_left 1
              · (intro w hSw; (try dsimp only at hSw); (try simp only [List.getElem_toArray, List.getElem_cons_succ, List.getElem_cons_zero]); go_simp) <;> (with_reducible rfl)
              try simp only [List.getElem_toArray, List.getElem_cons_succ, List.getElem_cons_zero]
              try simp only [Act.put, List.setIfInBounds_toArray, List.set_cons_zero, List.set_cons_succ]
              refine wpAnyH_take (i := 1) (v := ?_) rfl (by kernel_rfl) (by kernel_rfl) (by kernel_rfl) (fun _ _ _ h => h) (Or.inl ⟨by rfl, ?_⟩) (by assumption) ?_
              rotate_left 1
              · (intro w hSw; (try dsimp only at hSw); (try simp only [List.getElem_toArray, List.getElem_cons_succ, List.getElem_cons_zero]); go_simp) <;> (with_reducible rfl)
              try simp only [List.getElem_toArray, List.getElem_cons_succ, List.getElem_cons_zero]
              try simp only [Act.put, List.setIfInBounds_toArray, List.set_cons_zero, List.set_cons_succ]
              refine wpAnyH_take (i := 2) (v := ?_) rfl (by kernel_rfl) (by kernel_rfl) (by kernel_rfl) (fun _ _ _ h => h) (Or.inl ⟨by rfl, ?_⟩) (by assumption) ?_
              rotate_left 1
              · (intro w hSw; (try dsimp only at hSw); (try simp only [List.getElem_toArray, List.getElem_cons_succ, List.getElem_cons_zero]); go_simp) <;> (with_reducible rfl)
              try simp only [List.getElem_toArray, List.getElem_cons_succ, List.getElem_cons_zero]
              try simp only [Act.put, List.setIfInBounds_toArray, List.set_cons_zero, List.set_cons_succ]
              refine wpAnyH_take (i := 3) (v := ?_) rfl (by kernel_rfl) (by kernel_rfl) (by kernel_rfl) (fun _ _ _ h => h) (Or.inl ⟨by rfl, ?_⟩) (by assumption) ?_
              rotate_left 1
              · (intro w hSw; (try dsimp only at hSw); (try simp only [List.getElem_toArray, List.getElem_cons_succ, List.getElem_cons_zero]); go_simp) <;> (with_reducible rfl)
              try simp only [List.getElem_toArray, List.getElem_cons_succ, List.getElem_cons_zero]
              try simp only [Act.put, List.setIfInBounds_toArray, List.set_cons_zero, List.set_cons_succ]
              refine wpAnyH_take (i := 4) (v := ?_) rfl (by kernel_rfl) (by kernel_rfl) (by kernel_rfl) (fun _ _ _ h => h) (Or.inl ⟨by rfl, ?_⟩) (by assumption) ?_
              rotate_left 1
              · (intro w hSw; (try dsimp only at hSw); (try simp only [List.getElem_toArray, List.getElem_cons_succ, List.getElem_cons_zero]); go_simp) <;> (with_reducible rfl)
              try simp only [List.getElem_toArray, List.getElem_cons_succ, List.getElem_cons_zero]
              try simp only [Act.put, List.setIfInBounds_toArray, List.set_cons_zero, List.set_cons_succ]
              refine wpAnyH_take (i := 5) (v := ?_) rfl (by kernel_rfl) (by kernel_rfl) (by kernel_rfl) (fun _ _ _ h => h) (Or.inl ⟨by rfl, ?_⟩) (by assumption) ?_
              rotate_left 1
              · (intro w hSw; (try dsimp only at hSw); (try simp only [List.getElem_toArray, List.getElem_cons_succ, List.getElem_cons_zero]); go_simp) <;> (with_reducible rfl)
              try simp only [List.getElem_toArray, List.getElem_cons_succ, List.getElem_cons_zero]
              try simp only [Act.put, List.setIfInBounds_toArray, List.set_cons_zero, List.set_cons_succ]
              refine wpAnyH_take (i := 6) (v := ?_) rfl (by kernel_rfl) (by kernel_rfl) (by kernel_rfl) (fun _ _ _ h => h) (Or.inl ⟨by rfl, ?_⟩) (by assumption) ?_
              rotate_left 1
              · (intro w hSw; (try dsimp only at hSw); (try simp only [List.getElem_toArray, List.getElem_cons_succ, List.getElem_cons_zero]); go_simp) <;> (with_reducible rfl)
              try simp only [List.getElem_toArray, List.getElem_cons_succ, List.getElem_cons_zero]
              try simp only [Act.put, List.setIfInBounds_toArray, List.set_cons_zero, List.set_cons_succ]
              refine wpAnyH_take (i := 7) (v := ?_) rfl (by kernel_rfl) (by kernel_rfl) (by kernel_rfl) (fun _ _ _ h => h) (Or.inl ⟨by rfl, ?_⟩) (by assumption) ?_
              rotate_left 1
              · (intro w hSw; (try dsimp only at hSw); (try simp only [List.getElem_toArray, List.getElem_cons_succ, List.getElem_cons_zero]); go_simp) <;> (with_reducible rfl)
              try simp only [List.getElem_toArray, List.getElem_cons_succ, List.getElem_cons_zero]
              try simp only [Act.put, List.setIfInBounds_toArray, List.set_cons_zero, List.set_cons_succ]
              refine wpAnyH_take (i := 8) (v := ?_) rfl (by kernel_rfl) (by kernel_rfl) (by kernel_rfl) (fun _ _ _ h => h) (Or.inl ⟨by rfl, ?_⟩) (by assumption) ?_
              rotate_left 1
              · (intro w hSw; (try dsimp only at hSw); (try simp only [List.getElem_toArray, List.getElem_cons_succ, List.getElem_cons_zero]); go_simp) <;> (with_reducible rfl)
              try simp only [List.getElem_toArray, List.getElem_cons_succ, List.getElem_cons_zero]
              try simp only [Act.put, List.setIfInBounds_toArray, List.set_cons_zero, List.set_cons_succ]
              refine wpAnyH_take (i := 9) (v := ?_) rfl (by kernel_rfl) (by kernel_rfl) (by kernel_rfl) (fun _ _ _ h => h) (Or.inl ⟨by rfl, ?_⟩) (by assumption) ?_
              rotate_left 1
              · (intro w hSw; (try dsimp only at hSw); (try simp only [List.getElem_toArray, List.getElem_cons_succ, List.getElem_cons_zero]); go_simp) <;> (with_reducible rfl)
              try simp only [List.getElem_toArray, List.getElem_cons_succ, List.getElem_cons_zero]
              try simp only [Act.put, List.setIfInBounds_toArray, List.set_cons_zero, List.set_cons_succ]
              refine wpAnyH_take (i := 10) (v := ?_) rfl (by kernel_rfl) (by kernel_rfl) (by kernel_rfl) (fun _ _ _ h => h) (Or.inl ⟨by rfl, ?_⟩) (by assumption) ?_
              rotate_left 1
              · (intro w hSw; (try dsimp only at hSw); (try simp only [List.getElem_toArray, List.getElem_cons_succ, List.getElem_cons_zero]); go_simp) <;> (with_reducible rfl)
              try simp only [List.getElem_toArray, List.getElem_cons_succ, List.getElem_cons_zero]
              try simp only [Act.put, List.setIfInBounds_toArray, List.set_cons_zero, List.set_cons_succ]
              refine wpAnyH_take (i := 11) (v := ?_) rfl (by kernel_rfl) (by kernel_rfl) (by kernel_rfl) (fun _ _ _ h => h) (Or.inl ⟨by rfl, ?_⟩) (by assumption) ?_
              rotate_left 1
              · (intro w hSw; (try dsimp only at hSw); (try simp only [List.getElem_toArray, List.getElem_cons_succ, List.getElem_cons_zero]); go_simp) <;> (with_reducible rfl)
              try simp only [List.getElem_toArray, List.getElem_cons_succ, List.getElem_cons_zero]
              try simp only [Act.put, List.setIfInBounds_toArray, List.set_cons_zero, List.set_cons_succ]
              refine wpAnyH_take (i := 12) (v := ?_) rfl (by kernel_rfl) (by kernel_rfl) (by kernel_rfl) (fun _ _ _ h => h) (Or.inl ⟨by rfl, ?_⟩) (by assumption) ?_
              rotate_left 1
              · (intro w hSw; (try dsimp only at hSw); (try simp only [List.getElem_toArray, List.getElem_cons_succ, List.getElem_cons_zero]); go_simp) <;> (with_reducible rfl)
              try simp only [List.getElem_toArray, List.getElem_cons_succ, List.getElem_cons_zero]
              try simp only [Act.put, List.setIfInBounds_toArray, List.set_cons_zero, List.set_cons_succ]
              refine wpAnyH_take (i := 13) (v := ?_) rfl (by kernel_rfl) (by kernel_rfl) (by kernel_rfl) (fun _ _ _ h => h) (Or.inl ⟨by rfl, ?_⟩) (by assumption) ?_
              rotate_left 1
              · (intro w hSw; (try dsimp only at hSw); (try simp only [List.getElem_toArray, List.getElem_cons_succ, List.getElem_cons_zero]); go_simp) <;> (with_reducible rfl)
              try simp only [List.getElem_toArray, List.getElem_cons_succ, List.getElem_cons_zero]
              try simp only [Act.put, List.setIfInBounds_toArray, List.set_cons_zero, List.set_cons_succ]
              refine wpAnyH_ready (rs := [14]) (by kernel_rfl) (by simp) ?_
              refine AllReadyH.cons rfl (fun K hK => ?_) AllReadyH.nil
              simp only [List.getElem_toArray, List.getElem_cons_succ, List.getElem_cons_zero]
              go_simp
              go_at_call 15
              (with_reducible refine (L1.out _ ?_).mono ?_)
              · assumption
              rintro e w' ⟨rfl, hS⟩
              try go_wp2_with fail
              refine hK.out _ _ hS (fun hHeld => ?_)
              clear hK K
              try simp only [Act.put, List.setIfInBounds_toArray, List.set_cons_zero, List.set_cons_succ]
              refine wpAnyH_take (i := 15) (v := ?_) rfl (by kernel_rfl) (by kernel_rfl) (by kernel_rfl) (fun _ _ _ h => h) (Or.inl ⟨by rfl, ?_⟩) (by assumption) ?_
              rotate_left 1
              · (intro w hSw; (try dsimp only at hSw); (try simp only [List.getElem_toArray, List.getElem_cons_succ, List.getElem_cons_zero]); go_simp) <;> (with_reducible rfl)
              try simp only [List.getElem_toArray, List.getElem_cons_succ, List.getElem_cons_zero]
              try simp only [Act.put, List.setIfInBounds_toArray, List.set_cons_zero, List.set_cons_succ]
              refine wpAnyH_take (i := 16) (v := ?_) rfl (by kernel_rfl) (by kernel_rfl) (by kernel_rfl) (fun _ _ _ h => h) (Or.inl ⟨by rfl, ?_⟩) (by assumption) ?_
              rotate_left 1
              · (intro w hSw; (try dsimp only at hSw); (try simp only [List.getElem_toArray, List.getElem_cons_succ, List.getElem_cons_zero]); go_simp) <;> (with_reducible rfl)
              try simp only [List.getElem_toArray, List.getElem_cons_succ, List.getElem_cons_zero]
              try simp only [Act.put, List.setIfInBounds_toArray, List.set_cons_zero, List.set_cons_succ]
              refine wpAnyH_take (i := 17) (v := ?_) rfl (by kernel_rfl) (by kernel_rfl) (by kernel_rfl) (fun _ _ _ h => h) (Or.inl ⟨by rfl, ?_⟩) (by assumption) ?_
              rotate_left 1
              · (intro w hSw; (try dsimp only at hSw); (try simp only [List.getElem_toArray, List.getElem_cons_succ, List.getElem_cons_zero]); go_simp) <;> (with_reducible rfl)
              try simp only [List.getElem_toArray, List.getElem_cons_succ, List.getElem_cons_zero]
              try simp only [Act.put, List.setIfInBounds_toArray, List.set_cons_zero, List.set_cons_succ]
              refine wpAnyH_take (i := 18) (v := ?_) rfl (by kernel_rfl) (by kernel_rfl) (by kernel_rfl) (fun _ _ _ h => h) (Or.inl ⟨by rfl, ?_⟩) (by assumption) ?_
              rotate_left 1
              · (intro w hSw; (try dsimp only at hSw); (try simp only [List.getElem_toArray, List.getElem_cons_succ, List.getElem_cons_zero]); go_simp) <;> (with_reducible rfl)
              try simp only [List.getElem_toArray, List.getElem_cons_succ, List.getElem_cons_zero]
              try simp only [Act.put, List.setIfInBounds_toArray, List.set_cons_zero, List.set_cons_succ]
              refine wpAnyH_take (i := 19) (v := ?_) rfl (by kernel_rfl) (by kernel_rfl) (by kernel_rfl) (fun _ _ _ h => h) (Or.inl ⟨by rfl, ?_⟩) (by assumption) ?_
              rotate_left 1
              · (intro w hSw; (try dsimp only at hSw); (try simp only [List.getElem_toArray, List.getElem_cons_succ, List.getElem_cons_zero]); go_simp) <;> (with_reducible rfl)
              try simp only [List.getElem_toArray, List.getElem_cons_succ, List.getElem_cons_zero]
              try simp only [Act.put, List.setIfInBounds_toArray, List.set_cons_zero, List.set_cons_succ]
              refine wpAnyH_take (i := 20) (v := ?_) rfl (by kernel_rfl) (by kernel_rfl) (by kernel_rfl) (fun _ _ _ h => h) (Or.inl ⟨by rfl, ?_⟩) (by assumption) ?_
              rotate_left 1
              · (intro w hSw; (try dsimp only at hSw); (try simp only [List.getElem_toArray, List.getElem_cons_succ, List.getElem_cons_zero]); go_simp) <;> (with_reducible rfl)
              try simp only [List.getElem_toArray, List.getElem_cons_succ, List.getElem_cons_zero]
              try simp only [Act.put, List.setIfInBounds_toArray, List.set_cons_zero, List.set_cons_succ]
              refine wpAnyH_take (i := 21) (v := ?_) rfl (by kernel_rfl) (by kernel_rfl) (by kernel_rfl) (fun _ _ _ h => h) (Or.inl ⟨by rfl, ?_⟩) (by assumption) ?_
              rotate_left 1
              · (intro w hSw; (try dsimp only at hSw); (try simp only [List.getElem_toArray, List.getElem_cons_succ, List.getElem_cons_zero]); go_simp) <;> (with_reducible rfl)
              try simp only [List.getElem_toArray, List.getElem_cons_succ, List.getElem_cons_zero]
              try simp only [Act.put, List.setIfInBounds_toArray, List.set_cons_zero, List.set_cons_succ]
              refine wpAnyH_ready (rs := [22]) (by kernel_rfl) (by simp) ?_
              refine AllReadyH.cons rfl (fun K hK => ?_) AllReadyH.nil
              simp only [List.getElem_toArray, List.getElem_cons_succ, List.getElem_cons_zero]
              go_simp
              go_at_call 15
              (with_reducible refine (L2.out _ ?_).mono ?_)
              · assumption
              rintro e w' ⟨rfl, hS⟩
              try go_wp2_with fail
              refine hK.out _ _ hS (fun hHeld => ?_)
              clear hK K
              try simp only [Act.put, List.setIfInBounds_toArray, List.set_cons_zero, List.set_cons_succ]
              refine wpAnyH_take (i := 23) (v := ?_) rfl (by kernel_rfl) (by kernel_rfl) (by kernel_rfl) (fun _ _ _ h => h) (Or.inl ⟨by rfl, ?_⟩) (by assumption) ?_
              rotate_left 1
              · (intro w hSw; (try dsimp only at hSw); (try simp only [List.getElem_toArray, List.getElem_cons_succ, List.getElem_cons_zero]); go_simp) <;> (with_reducible rfl)
              try simp only [List.getElem_toArray, List.getElem_cons_succ, List.getElem_cons_zero]
              try simp only [Act.put, List.setIfInBounds_toArray, List.set_cons_zero, List.set_cons_succ]
              refine wpAnyH_take (i := 24) (v := ?_) rfl (by kernel_rfl) (by kernel_rfl) (by kernel_rfl) (fun _ _ _ h => h) (Or.inl ⟨by rfl, ?_⟩) (by assumption) ?_
              rotate_left 1
              · (intro w hSw; (try dsimp only at hSw); (try simp only [List.getElem_toArray, List.getElem_cons_succ, List.getElem_cons_zero]); go_simp) <;> (with_reducible rfl)
              try simp only [List.getElem_toArray, List.getElem_cons_succ, List.getElem_cons_zero]
              try simp only [Act.put, List.setIfInBounds_toArray, List.set_cons_zero, List.set_cons_succ]
              refine wpAnyH_take (i := 25) (v := ?_) rfl (by kernel_rfl) (by kernel_rfl) (by kernel_rfl) (fun _ _ _ h => h) (Or.inl ⟨by rfl, ?_⟩) (by assumption) ?_
              rotate_left 1
              · (intro w hSw; (try dsimp only at hSw); (try simp only [List.getElem_toArray, List.getElem_cons_succ, List.getElem_cons_zero]); go_simp) <;> (with_reducible rfl)
              try simp only [List.getElem_toArray, List.getElem_cons_succ, List.getElem_cons_zero]
              try simp only [Act.put, List.setIfInBounds_toArray, List.set_cons_zero, List.set_cons_succ]
              refine wpAnyH_take (i := 26) (v := ?_) rfl (by kernel_rfl) (by kernel_rfl) (by kernel_rfl) (fun _ _ _ h => h) (Or.inl ⟨by rfl, ?_⟩) (by assumption) ?_
              rotate_left 1
              · (intro w hSw; (try dsimp only at hSw); (try simp only [List.getElem_toArray, List.getElem_cons_succ, List.getElem_cons_zero]); go_simp) <;> (with_reducible rfl)
              try simp only [List.getElem_toArray, List.getElem_cons_succ, List.getElem_cons_zero]
              try simp only [Act.put, List.setIfInBounds_toArray, List.set_cons_zero, List.set_cons_succ]
              refine wpAnyH_take (i := 27) (v := ?_) rfl (by kernel_rfl) (by kernel_rfl) (by kernel_rfl) (fun _ _ _ h => h) (Or.inl ⟨by rfl, ?_⟩) (by assumption) ?_
              rotate_left 1
              · (intro w hSw; (try dsimp only at hSw); (try simp only [List.getElem_toArray, List.getElem_cons_succ, List.getElem_cons_zero]); go_simp) <;> (with_reducible rfl)
              try simp only [List.getElem_toArray, List.getElem_cons_succ, List.getElem_cons_zero]
              try simp only [Act.put, List.setIfInBounds_toArray, List.set_cons_zero, List.set_cons_succ]
              refine wpAnyH_take (i := 28) (v := ?_) rfl (by kernel_rfl) (by kernel_rfl) (by kernel_rfl) (fun _ _ _ h => h) (Or.inl ⟨by rfl, ?_⟩) (by assumption) ?_
              rotate_left 1
              · (intro w hSw; (try dsimp only at hSw); (try simp only [List.getElem_toArray, List.getElem_cons_succ, List.getElem_cons_zero]); go_simp) <;> (with_reducible rfl)
              try simp only [List.getElem_toArray, List.getElem_cons_succ, List.getElem_cons_zero]
              try simp only [Act.put, List.setIfInBounds_toArray, List.set_cons_zero, List.set_cons_succ]
              refine wpAnyH_take (i := 29) (v := ?_) rfl (by kernel_rfl) (by kernel_rfl) (by kernel_rfl) (fun _ _ _ h => h) (Or.inl ⟨by rfl, ?_⟩) (by assumption) ?_
              rotate_left 1
              · (intro w hSw; (try dsimp only at hSw); (try simp only [List.getElem_toArray, List.getElem_cons_succ, List.getElem_cons_zero]); go_simp) <;> (with_reducible rfl)
              try simp only [List.getElem_toArray, List.getElem_cons_succ, List.getElem_cons_zero]
              try simp only [Act.put, List.setIfInBounds_toArray, List.set_cons_zero, List.set_cons_succ]
              refine wpAnyH_take (i := 30) (v := ?_) rfl (by kernel_rfl) (by kernel_rfl) (by kernel_rfl) (fun _ _ _ h => h) (Or.inl ⟨by rfl, ?_⟩) (by assumption) ?_
              rotate_left 1
              · (intro w hSw; (try dsimp only at hSw); (try simp only [List.getElem_toArray, List.getElem_cons_succ, List.getElem_cons_zero]); go_simp) <;> (with_reducible rfl)
              try simp only [List.getElem_toArray, List.getElem_cons_succ, List.getElem_cons_zero]
              try simp only [Act.put, List.setIfInBounds_toArray, List.set_cons_zero, List.set_cons_succ]
              refine wpAnyH_take (i := 31) (v := ?_) rfl (by kernel_rfl) (by kernel_rfl) (by kernel_rfl) (fun _ _ _ h => h) (Or.inl ⟨by rfl, ?_⟩) (by assumption) ?_
              rotate_left 1
              · (intro w hSw; (try dsimp only at hSw); (try simp only [List.getElem_toArray, List.getElem_cons_succ, List.getElem_cons_zero]); go_simp) <;> (with_reducible rfl)
              try simp only [List.getElem_toArray, List.getElem_cons_succ, List.getElem_cons_zero]
              try simp only [Act.put, List.setIfInBounds_toArray, List.set_cons_zero, List.set_cons_succ]
              refine wpAnyH_take (i := 32) (v := ?_) rfl (by kernel_rfl) (by kernel_rfl) (by kernel_rfl) (fun _ _ _ h => h) (Or.inl ⟨by rfl, ?_⟩) (by assumption) ?_
              rotate_left 1
              · (intro w hSw; (try dsimp only at hSw); (try simp only [List.getElem_toArray, List.getElem_cons_succ, List.getElem_cons_zero]); go_simp) <;> (with_reducible rfl)
              try simp only [List.getElem_toArray, List.getElem_cons_succ, List.getElem_cons_zero]
              try simp only [Act.put, List.setIfInBounds_toArray, List.set_cons_zero, List.set_cons_succ]
              refine wpAnyH_take (i := 33) (v := ?_) rfl (by kernel_rfl) (by kernel_rfl) (by kernel_rfl) (fun _ _ _ h => h) (Or.inl ⟨by rfl, ?_⟩) (by assumption) ?_
              rotate_left 1
              · (intro w hSw; (try dsimp only at hSw); (try simp only [List.getElem_toArray, List.getElem_cons_succ, List.getElem_cons_zero]); go_simp) <;> (with_reducible rfl)
              try simp only [List.getElem_toArray, List.getElem_cons_succ, List.getElem_cons_zero]
              try simp only [Act.put, List.setIfInBounds_toArray, List.set_cons_zero, List.set_cons_succ]
              refine wpAnyH_take (i := 34) (v := ?_) rfl (by kernel_rfl) (by kernel_rfl) (by kernel_rfl) (fun _ _ _ h => h) (Or.inl ⟨by rfl, ?_⟩) (by assumption) ?_
              rotate_left 1
              · (intro w hSw; (try dsimp only at hSw); (try simp only [List.getElem_toArray, List.getElem_cons_succ, List.getElem_cons_zero]); go_simp) <;> (with_reducible rfl)
              try simp only [List.getElem_toArray, List.getElem_cons_succ, List.getElem_cons_zero]
              try simp only [Act.put, List.setIfInBounds_toArray, List.set_cons_zero, List.set_cons_succ]
              refine wpAnyH_take (i := 35) (v := ?_) rfl (by kernel_rfl) (by kernel_rfl) (by kernel_rfl) (fun _ _ _ h => h) (Or.inl ⟨by rfl, ?_⟩) (by assumption) ?_
              rotate_left 1
              · (intro w hSw; (try dsimp only at hSw); (try simp only [List.getElem_toArray, List.getElem_cons_succ, List.getElem_cons_zero]); go_simp) <;> (with_reducible rfl)
              try simp only [List.getElem_toArray, List.getElem_cons_succ, List.getElem_cons_zero]
              try simp only [Act.put, List.setIfInBounds_toArray, List.set_cons_zero, List.set_cons_succ]
              refine wpAnyH_take (i := 36) (v := ?_) rfl (by kernel_rfl) (by kernel_rfl) (by kernel_rfl) (fun _ _ _ h => h) (Or.inl ⟨by rfl, ?_⟩) (by assumption) ?_
              rotate_left 1
              · (intro w hSw; (try dsimp only at hSw); (try simp only [List.getElem_toArray, List.getElem_cons_succ, List.getElem_cons_zero]); go_simp) <;> (with_reducible rfl)
              try simp only [List.getElem_toArray, List.getElem_cons_succ, List.getElem_cons_zero]
              try simp only [Act.put, List.setIfInBounds_toArray, List.set_cons_zero, List.set_cons_succ]
              refine wpAnyH_take (i := 37) (v := ?_) rfl (by kernel_rfl) (by kernel_rfl) (by kernel_rfl) (fun _ _ _ h => h) (Or.inl ⟨by rfl, ?_⟩) (by assumption) ?_
              rotate_left 1
              · (intro w hSw; (try dsimp only at hSw); (try simp only [List.getElem_toArray, List.getElem_cons_succ, List.getElem_cons_zero]); go_simp) <;> (with_reducible rfl)
              try simp only [List.getElem_toArray, List.getElem_cons_succ, List.getElem_cons_zero]
              try simp only [Act.put, List.setIfInBounds_toArray, List.set_cons_zero, List.set_cons_succ]
              refine wpAnyH_take (i := 38) (v := ?_) rfl (by kernel_rfl) (by kernel_rfl) (by kernel_rfl) (fun _ _ _ h => h) (Or.inl ⟨by rfl, ?_⟩) (by assumption) ?_
              rotate_left 1
              · (intro w hSw; (try dsimp only at hSw); (try simp only [List.getElem_toArray, List.getElem_cons_succ, List.getElem_cons_zero]); go_simp) <;> (with_reducible rfl)
              try simp only [List.getElem_toArray, List.getElem_cons_succ, List.getElem_cons_zero]
              try simp only [Act.put, List.setIfInBounds_toArray, List.set_cons_zero, List.set_cons_succ]
              refine wpAnyH_take (i := 39) (v := ?_) rfl (by kernel_rfl) (by kernel_rfl) (by kernel_rfl) (fun _ _ _ h => h) (Or.inl ⟨by rfl, ?_⟩) (by assumption) ?_
              rotate_left 1
              · (intro w hSw; (try dsimp only at hSw); (try simp only [List.getElem_toArray, List.getElem_cons_succ, List.getElem_cons_zero]); go_simp) <;> (with_reducible rfl)
              try simp only [List.getElem_toArray, List.getElem_cons_succ, List.getElem_cons_zero]
              try simp only [Act.put, List.setIfInBounds_toArray, List.set_cons_zero, List.set_cons_succ]
              refine wpAnyH_take (i := 40) (v := ?_) rfl (by kernel_rfl) (by kernel_rfl) (by kernel_rfl) (fun _ _ _ h => h) (Or.inl ⟨by rfl, ?_⟩) (by assumption) ?_
              rotate_left 1
              · (intro w hSw; (try dsimp only at hSw); (try simp only [List.getElem_toArray, List.getElem_cons_succ, List.getElem_cons_zero]); go_simp) <;> (with_reducible rfl)
              try simp only [List.getElem_toArray, List.getElem_cons_succ, List.getElem_cons_zero]
              try simp only [Act.put, List.setIfInBounds_toArray, List.set_cons_zero, List.set_cons_succ]
              refine wpAnyH_ready (rs := [41]) (by kernel_rfl) (by simp) ?_
              refine AllReadyH.cons rfl (fun K hK => ?_) AllReadyH.nil
              simp only [List.getElem_toArray, List.getElem_cons_succ, List.getElem_cons_zero]
              go_simp
              go_at_call 22
              (with_reducible refine (V1.out _ ?_).mono ?_)
              · assumption
              rintro e w' ⟨rfl, hS⟩
              try go_wp2_with fail
              refine hK.out _ _ hS (fun hHeld => ?_)
              clear hK K
              try simp only [Act.put, List.setIfInBounds_toArray, List.set_cons_zero, List.set_cons_succ]
              refine wpAnyH_take (i := 42) (v := ?_) rfl (by kernel_rfl) (by kernel_rfl) (by kernel_rfl) (fun _ _ _ h => h) (Or.inl ⟨by rfl, ?_⟩) (by assumption) ?_
              rotate_left 1
              · (intro w hSw; (try dsimp only at hSw); (try simp only [List.getElem_toArray, List.getElem_cons_succ, List.getElem_cons_zero]); go_simp) <;> (with_reducible rfl)
              try simp only [List.getElem_toArray, List.getElem_cons_succ, List.getElem_cons_zero]
              try simp only [Act.put, List.setIfInBounds_toArray, List.set_cons_zero, List.set_cons_succ]
              refine wpAnyH_take (i := 43) (v := ?_) rfl (by kernel_rfl) (by kernel_rfl) (by kernel_rfl) (fun _ _ _ h => h) (Or.inl ⟨by rfl, ?_⟩) (by assumption) ?_
              rotate_left 1
              · (intro w hSw; (try dsimp only at hSw); (try simp only [List.getElem_toArray, List.getElem_cons_succ, List.getElem_cons_zero]); go_simp) <;> (with_reducible rfl)
              try simp only [List.getElem_toArray, List.getElem_cons_succ, List.getElem_cons_zero]
              try simp only [Act.put, List.setIfInBounds_toArray, List.set_cons_zero, List.set_cons_succ]
              refine wpAnyH_take (i := 44) (v := undef) rfl (by kernel_rfl) (by kernel_rfl) (by kernel_rfl) (fun _ _ _ h => h) (Or.inr ⟨by rfl, rfl⟩) (by assumption) ?_
              simp only [List.getElem_toArray, List.getElem_cons_succ, List.getElem_cons_zero]
              try simp only [Act.put, List.setIfInBounds_toArray, List.set_cons_zero, List.set_cons_succ]
              refine wpAnyH_take (i := 45) (v := undef) rfl (by kernel_rfl) (by kernel_rfl) (by kernel_rfl) (fun _ _ _ h => h) (Or.inr ⟨by rfl, rfl⟩) (by assumption) ?_
              simp only [List.getElem_toArray, List.getElem_cons_succ, List.getElem_cons_zero]
              try simp only [Act.put, List.setIfInBounds_toArray, List.set_cons_zero, List.set_cons_succ]
              refine wpAnyH_take (i := 46) (v := undef) rfl (by kernel_rfl) (by kernel_rfl) (by kernel_rfl) (fun _ _ _ h => h) (Or.inr ⟨by rfl, rfl⟩) (by assumption) ?_
              simp only [List.getElem_toArray, List.getElem_cons_succ, List.getElem_cons_zero]
              try simp only [Act.put, List.setIfInBounds_toArray, List.set_cons_zero, List.set_cons_succ]
              refine wpAnyH_take (i := 47) (v := undef) rfl (by kernel_rfl) (by kernel_rfl) (by kernel_rfl) (fun _ _ _ h => h) (Or.inr ⟨by rfl, rfl⟩) (by assumption) ?_
              simp only [List.getElem_toArray, List.getElem_cons_succ, List.getElem_cons_zero]
              try simp only [Act.put, List.setIfInBounds_toArray, List.set_cons_zero, List.set_cons_succ]
              refine wpAnyH_take (i := 48) (v := undef) rfl (by kernel_rfl) (by kernel_rfl) (by kernel_rfl) (fun _ _ _ h => h) (Or.inr ⟨by rfl, rfl⟩) (by assumption) ?_
              simp only [List.getElem_toArray, List.getElem_cons_succ, List.getElem_cons_zero]
              try simp only [Act.put, List.setIfInBounds_toArray, List.set_cons_zero, List.set_cons_succ]
              refine wpAnyH_take (i := 49) (v := undef) rfl (by kernel_rfl) (by kernel_rfl) (by kernel_rfl) (fun _ _ _ h => h) (Or.inr ⟨by rfl, rfl⟩) (by assumption) ?_
              simp only [List.getElem_toArray, List.getElem_cons_succ, List.getElem_cons_zero]
              try simp only [Act.put, List.setIfInBounds_toArray, List.set_cons_zero, List.set_cons_succ]
              refine wpAnyH_take (i := 50) (v := ?_) rfl (by kernel_rfl) (by kernel_rfl) (by kernel_rfl) (fun _ _ _ h => h) (Or.inl ⟨by rfl, ?_⟩) (by assumption) ?_
              rotate_left 1
              · (intro w hSw; (try dsimp only at hSw); (try simp only [List.getElem_toArray, List.getElem_cons_succ, List.getElem_cons_zero]); go_simp) <;> (with_reducible rfl)
              try simp only [List.getElem_toArray, List.getElem_cons_succ, List.getElem_cons_zero]
              try simp only [Act.put, List.setIfInBounds_toArray, List.set_cons_zero, List.set_cons_succ]
              refine wpAnyH_take (i := 51) (v := ?_) rfl (by kernel_rfl) (by kernel_rfl) (by kernel_rfl) (fun _ _ _ h => h) (Or.inl ⟨by rfl, ?_⟩) (by assumption) ?_
              rotate_left 1
              · (intro w hSw; (try dsimp only at hSw); (try simp only [List.getElem_toArray, List.getElem_cons_succ, List.getElem_cons_zero]); go_simp) <;> (with_reducible rfl)
              try simp only [List.getElem_toArray, List.getElem_cons_succ, List.getElem_cons_zero]
              try simp only [Act.put, List.setIfInBounds_toArray, List.set_cons_zero, List.set_cons_succ]
              refine wpAnyH_done (by kernel_rfl) ?_ _
              have mv := hS.2.2.2.2.2.2.2.2.2.2.2.2.2.2.2.2.2.2.2.2.2.2.2.2
              clear hS
              go_wp2_with fail
              refine (awake_any _).mono ?_
              rintro e w5 ⟨rfl, b5⟩
              go_wp2_with fail
              go_ret
              exact ⟨ret_bool rfl, by rw [HN.out]; exact mv.bel.trans (b5.mono (by have := mv.le; have := mv.xl; have := mv.nx; omega))⟩
          | false =>
          cases v4 with
          | true =>
            as_aux_lemma =>
              go_wp2_with fail
              refine wp_region_held_drew (S := fun w' => w'.cell? ⟨ba, oa + k * 8, none⟩ = some (.int .i64 rk) ∧ w'.cell? ⟨ba, oa + k * 8 + 1, none⟩ = some (.int .i64 oi) ∧ w'.cell? ⟨ba, oa + k * 8 + 2, none⟩ = some (.int .i64 op) ∧ w'.cell? ⟨ba, oa + k * 8 + 3, none⟩ = some (.int .i64 ot_) ∧ w'.cell? ⟨ba, oa + k * 8 + 4, none⟩ = some (.int .i64 ol) ∧ w'.cell? ⟨ba, oa + k * 8 + 5, none⟩ = some (.int .i64 ob) ∧ w'.cell? ⟨ba, oa + k * 8 + 6, none⟩ = some (.int .i64 or_) ∧ w'.cell? ⟨ba, oa + k * 8 + 7, none⟩ = some (.string olb) ∧ w'.cell? ⟨N, 0, none⟩ = some (.int .i64 rk) ∧ w'.cell? ⟨N, 1, none⟩ = some (.int .i64 ri) ∧ w'.cell? ⟨N, 2, none⟩ = some (.int .i64 rp) ∧ w'.cell? ⟨N, 3, none⟩ = some (.int .i64 rt_) ∧ w'.cell? ⟨N, 4, none⟩ = some (.int .i64 rl) ∧ w'.cell? ⟨N, 5, none⟩ = some (.int .i64 rb) ∧ w'.cell? ⟨N, 6, none⟩ = some (.int .i64 rr) ∧ w'.cell? ⟨N, 7, none⟩ = some (.string rlb) ∧ w'.cell? ⟨X, 0, none⟩ = some (.int .i64 rk) ∧ w'.cell? ⟨X, 1, none⟩ = some (.int .i64 ri) ∧ w'.cell? ⟨X, 2, none⟩ = some (.int .i64 rp) ∧ w'.cell? ⟨X, 3, none⟩ = some (.int .i64 T) ∧ w'.cell? ⟨X, 4, none⟩ = some (.int .i64 L) ∧ w'.cell? ⟨X, 5, none⟩ = some (.int .i64 Bo) ∧ w'.cell? ⟨X, 6, none⟩ = some (.int .i64 R) ∧ w'.cell? ⟨X, 7, none⟩ = some (.string rlb) ∧ I.Mv N X S nl (⟨rk, ri, rp, rt_, rl, rb, rr, rlb⟩ : I.Rg) (⟨rk, ri, rp, T, L, Bo, R, rlb⟩ : I.Rg) (.slice (some ⟨g, 0, none⟩) nl cg) ((⟨rk, 0, rp, rt_, rl, rb, rr, rlb⟩ : I.Rg) :: ot) w w') (by kernel_rfl) S1.out (fun hHeld => ?_)
              refine wpAnyH_take (i := 0) (v := ?_) rfl (by kernel_rfl) (by kernel_rfl) (by kernel_rfl) (fun _ _ _ h => h) (Or.inl ⟨by rfl, ?_⟩) (by assumption) ?_
              rotate_left 1
              · (intro w hSw; (try dsimp only at hSw); (try simp only [List.getElem_toArray, List.getElem_cons_succ, List.getElem_cons_zero]); go_simp) <;> (with_reducible rfl)
              try simp only [List.getElem_toArray, List.getElem_cons_succ, List.getElem_cons_zero]
              try simp only [Act.put, List.setIfInBounds_toArray, List.set_cons_zero, List.set_cons_succ]
              refine wpAnyH_take (i := 1) (v := ?_) rfl (by kernel_rfl) (by kernel_rfl) (by kernel_rfl) (fun _ _ _ h => h) (Or.inl ⟨by rfl, ?_⟩) (by assumption) ?_
              rotate_left 1
              · (intro w hSw; (try dsimp only at hSw); (try simp only [List.getElem_toArray, List.getElem_cons_succ, List.getElem_cons_zero]); go_simp) <;> (with_reducible rfl)
              try simp only [List.getElem_toArray, List.getElem_cons_succ, List.getElem_cons_zero]
              try simp only [Act.put, List.setIfInBounds_toArray, List.set_cons_zero, List.set_cons_succ]
              refine wpAnyH_take (i := 2) (v := ?_) rfl (by kernel_rfl) (by kernel_rfl) (by kernel_rfl) (fun _ _ _ h => h) (Or.inl ⟨by rfl, ?_⟩) (by assumption) ?_
              rotate_left 1
              · (intro w hSw; (try dsimp only at hSw); (try simp only [List.getElem_toArray, List.getElem_cons_succ, List.getElem_cons_zero]); go_simp) <;> (with_reducible rfl)
              try simp only [List.getElem_toArray, List.getElem_cons_succ, List.getElem_cons_zero]
              try simp only [Act.put, List.setIfInBounds_toArray, List.set_cons_zero, List.set_cons_succ]
              refine wpAnyH_take (i := 3) (v := ?_) rfl (by kernel_rfl) (by kernel_rfl) (by kernel_rfl) (fun _ _ _ h => h) (Or.inl ⟨by rfl, ?_⟩) (by assumption) ?_
              rotate_left 1
              · (intro w hSw; (try dsimp only at hSw); (try simp only [List.getElem_toArray, List.getElem_cons_succ, List.getElem_cons_zero]); go_simp) <;> (with_reducible rfl)
              try simp only [List.getElem_toArray, List.getElem_cons_succ, List.getElem_cons_zero]
              try simp only [Act.put, List.setIfInBounds_toArray, List.set_cons_zero, List.set_cons_succ]
              refine wpAnyH_take (i := 4) (v := ?_) rfl (by kernel_rfl) (by kernel_rfl) (by kernel_rfl) (fun _ _ _ h => h) (Or.inl ⟨by rfl, ?_⟩) (by assumption) ?_
              rotate_left 1
              · (intro w hSw; (try dsimp only at hSw); (try simp only [List.getElem_toArray, List.getElem_cons_succ, List.getElem_cons_zero]); go_simp) <;> (with_reducible rfl)
              try simp only [List.getElem_toArray, List.getElem_cons_succ, List.getElem_cons_zero]
              try simp only [Act.put, List.setIfInBounds_toArray, List.set_cons_zero, List.set_cons_succ]
              refine wpAnyH_take (i := 5) (v := ?_) rfl (by kernel_rfl) (by kernel_rfl) (by kernel_rfl) (fun _ _ _ h => h) (Or.inl ⟨by rfl, ?_⟩) (by assumption) ?_
              rotate_left 1
              · (intro w hSw; (try dsimp only at hSw); (try simp only [List.getElem_toArray, List.getElem_cons_succ, List.getElem_cons_zero]); go_simp) <;> (with_reducible rfl)
              try simp only [List.getElem_toArray, List.getElem_cons_succ, List.getElem_cons_zero]
              try simp only [Act.put, List.setIfInBounds_toArray, List.set_cons_zero, List.set_cons_succ]
              refine wpAnyH_take (i := 6) (v := ?_) rfl (by kernel_rfl) (by kernel_rfl) (by kernel_rfl) (fun _ _ _ h => h) (Or.inl ⟨by rfl, ?_⟩) (by assumption) ?_
              rotate_left 1
              · (intro w hSw; (try dsimp only at hSw); (try simp only [List.getElem_toArray, List.getElem_cons_succ, List.getElem_cons_zero]); go_simp) <;> (with_reducible rfl)
              try simp only [List.getElem_toArray, List.getElem_cons_succ, List.getElem_cons_zero]
              try simp only [Act.put, List.setIfInBounds_toArray, List.set_cons_zero, List.set_cons_succ]
              refine wpAnyH_take (i := 7) (v := ?_) rfl (by kernel_rfl) (by kernel_rfl) (by kernel_rfl) (fun _ _ _ h => h) (Or.inl ⟨by rfl, ?_⟩) (by assumption) ?_
              rotate_left 1
              · (intro w hSw; (try dsimp only at hSw); (try simp only [List.getElem_toArray, List.getElem_cons_succ, List.getElem_cons_zero]); go_simp) <;> (with_reducible rfl)
              try simp only [List.getElem_toArray, List.getElem_cons_succ, List.getElem_cons_zero]
              try simp only [Act.put, List.setIfInBounds_toArray, List.set_cons_zero, List.set_cons_succ]
              refine wpAnyH_take (i := 8) (v := ?_) rfl (by kernel_rfl) (by kernel_rfl) (by kernel_rfl) (fun _ _ _ h => h) (Or.inl ⟨by rfl, ?_⟩) (by assumption) ?_
              rotate_left 1
              · (intro w hSw; (try dsimp only at hSw); (try simp only [List.getElem_toArray, List.getElem_cons_succ, List.getElem_cons_zero]); go_simp) <;> (with_reducible rfl)
              try simp only [List.getElem_toArray, List.getElem_cons_succ, List.getElem_cons_zero]
              try simp only [Act.put, List.setIfInBounds_toArray, List.set_cons_zero, List.set_cons_succ]
              refine wpAnyH_take (i := 9) (v := ?_) rfl (by kernel_rfl) (by kernel_rfl) (by kernel_rfl) (fun _ _ _ h => h) (Or.inl ⟨by rfl, ?_⟩) (by assumption) ?_
              rotate_left 1
              · (intro w hSw; (try dsimp only at hSw); (try simp only [List.getElem_toArray, List.getElem_cons_succ, List.getElem_cons_zero]); go_simp) <;> (with_reducible rfl)
              try simp only [List.getElem_toArray, List.getElem_cons_succ, List.getElem_cons_zero]
              try simp only [Act.put, List.setIfInBounds_toArray, List.set_cons_zero, List.set_cons_succ]
              refine wpAnyH_take (i := 10) (v := ?_) rfl (by kernel_rfl) (by kernel_rfl) (by kernel_rfl) (fun _ _ _ h => h) (Or.inl ⟨by rfl, ?_⟩) (by assumption) ?_
              rotate_left 1
              · (intro w hSw; (try dsimp only at hSw); (try simp only [List.getElem_toArray, List.getElem_cons_succ, List.getElem_cons_zero]); go_simp) <;> (with_reducible rfl)
              try simp only [List.getElem_toArray, List.getElem_cons_succ, List.getElem_cons_zero]
              try simp only [Act.put, List.setIfInBounds_toArray, List.set_cons_zero, List.set_cons_succ]
              refine wpAnyH_take (i := 11) (v := ?_) rfl (by kernel_rfl) (by kernel_rfl) (by kernel_rfl) (fun _ _ _ h => h) (Or.inl ⟨by rfl, ?_⟩) (by assumption) ?_
              rotate_left 1
              · (intro w hSw; (try dsimp only at hSw); (try simp only [List.getElem_toArray, List.getElem_cons_succ, List.getElem_cons_zero]); go_simp) <;> (with_reducible rfl)
              try simp only [List.getElem_toArray, List.getElem_cons_succ, List.getElem_cons_zero]
              try simp only [Act.put, List.setIfInBounds_toArray, List.set_cons_zero, List.set_cons_succ]
              refine wpAnyH_take (i := 12) (v := ?_) rfl (by kernel_rfl) (by kernel_rfl) (by kernel_rfl) (fun _ _ _ h => h) (Or.inl ⟨by rfl, ?_⟩) (by assumption) ?_
              rotate_left 1
              · (intro w hSw; (try dsimp only at hSw); (try simp only [List.getElem_toArray, List.getElem_cons_succ, List.getElem_cons_zero]); go_simp) <;> (with_reducible rfl)
              try simp only [List.getElem_toArray, List.getElem_cons_succ, List.getElem_cons_zero]
              try simp only [Act.put, List.setIfInBounds_toArray, List.set_cons_zero, List.set_cons_succ]
              refine wpAnyH_take (i := 13) (v := ?_) rfl (by kernel_rfl) (by kernel_rfl) (by kernel_rfl) (fun _ _ _ h => h) (Or.inl ⟨by rfl, ?_⟩) (by assumption) ?_
              rotate_left 1
              · (intro w hSw; (try dsimp only at hSw); (try simp only [List.getElem_toArray, List.getElem_cons_succ, List.getElem_cons_zero]); go_simp) <;> (with_reducible rfl)
              try simp only [List.getElem_toArray, List.getElem_cons_succ, List.getElem_cons_zero]
              try simp only [Act.put, List.setIfInBounds_toArray, List.set_cons_zero, List.set_cons_succ]
              refine wpAnyH_ready (rs := [14]) (by kernel_rfl) (by simp) ?_
              refine AllReadyH.cons rfl (fun K hK => ?_) AllReadyH.nil
              simp only [List.getElem_toArray, List.getElem_cons_succ, List.getElem_cons_zero]
              go_simp
              go_at_call 15
              (with_reducible refine (L1.out _ ?_).mono ?_)
              · assumption
              rintro e w' ⟨rfl, hS⟩
              try go_wp2_with fail
              refine hK.out _ _ hS (fun hHeld => ?_)
              clear hK K
              try simp only [Act.put, List.setIfInBounds_toArray, List.set_cons_zero, List.set_cons_succ]
              refine wpAnyH_take (i := 15) (v := ?_) rfl (by kernel_rfl) (by kernel_rfl) (by kernel_rfl) (fun _ _ _ h => h) (Or.inl ⟨by rfl, ?_⟩) (by assumption) ?_
              rotate_left 1
              · (intro w hSw; (try dsimp only at hSw); (try simp only [List.getElem_toArray, List.getElem_cons_succ, List.getElem_cons_zero]); go_simp) <;> (with_reducible rfl)
              try simp only [List.getElem_toArray, List.getElem_cons_succ, List.getElem_cons_zero]
              try simp only [Act.put, List.setIfInBounds_toArray, List.set_cons_zero, List.set_cons_succ]
              refine wpAnyH_take (i := 16) (v := ?_) rfl (by kernel_rfl) (by kernel_rfl) (by kernel_rfl) (fun _ _ _ h => h) (Or.inl ⟨by rfl, ?_⟩) (by assumption) ?_
              rotate_left 1
              · (intro w hSw; (try dsimp only at hSw); (try simp only [List.getElem_toArray, List.getElem_cons_succ, List.getElem_cons_zero]); go_simp) <;> (with_reducible rfl)
              try simp only [List.getElem_toArray, List.getElem_cons_succ, List.getElem_cons_zero]
              try simp only [Act.put, List.setIfInBounds_toArray, List.set_cons_zero, List.set_cons_succ]
              refine wpAnyH_take (i := 17) (v := ?_) rfl (by kernel_rfl) (by kernel_rfl) (by kernel_rfl) (fun _ _ _ h => h) (Or.inl ⟨by rfl, ?_⟩) (by assumption) ?_
              rotate_left 1
              · (intro w hSw; (try dsimp only at hSw); (try simp only [List.getElem_toArray, List.getElem_cons_succ, List.getElem_cons_zero]); go_simp) <;> (with_reducible rfl)
              try simp only [List.getElem_toArray, List.getElem_cons_succ, List.getElem_cons_zero]
              try simp only [Act.put, List.setIfInBounds_toArray, List.set_cons_zero, List.set_cons_succ]
              refine wpAnyH_take (i := 18) (v := ?_) rfl (by kernel_rfl) (by kernel_rfl) (by kernel_rfl) (fun _ _ _ h => h) (Or.inl ⟨by rfl, ?_⟩) (by assumption) ?_
              rotate_left 1
              · (intro w hSw; (try dsimp only at hSw); (try simp only [List.getElem_toArray, List.getElem_cons_succ, List.getElem_cons_zero]); go_simp) <;> (with_reducible rfl)
              try simp only [List.getElem_toArray, List.getElem_cons_succ, List.getElem_cons_zero]
              try simp only [Act.put, List.setIfInBounds_toArray, List.set_cons_zero, List.set_cons_succ]
              refine wpAnyH_take (i := 19) (v := ?_) rfl (by kernel_rfl) (by kernel_rfl) (by kernel_rfl) (fun _ _ _ h => h) (Or.inl ⟨by rfl, ?_⟩) (by assumption) ?_
              rotate_left 1
              · (intro w hSw; (try dsimp only at hSw); (try simp only [List.getElem_toArray, List.getElem_cons_succ, List.getElem_cons_zero]); go_simp) <;> (with_reducible rfl)
              try simp only [List.getElem_toArray, List.getElem_cons_succ, List.getElem_cons_zero]
              try simp only [Act.put, List.setIfInBounds_toArray, List.set_cons_zero, List.set_cons_succ]
              refine wpAnyH_take (i := 20) (v := ?_) rfl (by kernel_rfl) (by kernel_rfl) (by kernel_rfl) (fun _ _ _ h => h) (Or.inl ⟨by rfl, ?_⟩) (by assumption) ?_
              rotate_left 1
              · (intro w hSw; (try dsimp only at hSw); (try simp only [List.getElem_toArray, List.getElem_cons_succ, List.getElem_cons_zero]); go_simp) <;> (with_reducible rfl)
              try simp only [List.getElem_toArray, List.getElem_cons_succ, List.getElem_cons_zero]
              try simp only [Act.put, List.setIfInBounds_toArray, List.set_cons_zero, List.set_cons_succ]
              refine wpAnyH_take (i := 21) (v := ?_) rfl (by kernel_rfl) (by kernel_rfl) (by kernel_rfl) (fun _ _ _ h => h) (Or.inl ⟨by rfl, ?_⟩) (by assumption) ?_
              rotate_left 1
              · (intro w hSw; (try dsimp only at hSw); (try simp only [List.getElem_toArray, List.getElem_cons_succ, List.getElem_cons_zero]); go_simp) <;> (with_reducible rfl)
              try simp only [List.getElem_toArray, List.getElem_cons_succ, List.getElem_cons_zero]
              try simp only [Act.put, List.setIfInBounds_toArray, List.set_cons_zero, List.set_cons_succ]
              refine wpAnyH_ready (rs := [22]) (by kernel_rfl) (by simp) ?_
              refine AllReadyH.cons rfl (fun K hK => ?_) AllReadyH.nil
              simp only [List.getElem_toArray, List.getElem_cons_succ, List.getElem_cons_zero]
              go_simp
              go_at_call 15
              (with_reducible refine (L2.out _ ?_).mono ?_)
              · assumption
              rintro e w' ⟨rfl, hS⟩
              try go_wp2_with fail
              refine hK.out _ _ hS (fun hHeld => ?_)
              clear hK K
              try simp only [Act.put, List.setIfInBounds_toArray, List.set_cons_zero, List.set_cons_succ]
              refine wpAnyH_take (i := 23) (v := ?_) rfl (by kernel_rfl) (by kernel_rfl) (by kernel_rfl) (fun _ _ _ h => h) (Or.inl ⟨by rfl, ?_⟩) (by assumption) ?_
              rotate_left 1
              · (intro w hSw; (try dsimp only at hSw); (try simp only [List.getElem_toArray, List.getElem_cons_succ, List.getElem_cons_zero]); go_simp) <;> (with_reducible rfl)
              try simp only [List.getElem_toArray, List.getElem_cons_succ, List.getElem_cons_zero]
              try simp only [Act.put, List.setIfInBounds_toArray, List.set_cons_zero, List.set_cons_succ]
              refine wpAnyH_take (i := 24) (v := ?_) rfl (by kernel_rfl) (by kernel_rfl) (by kernel_rfl) (fun _ _ _ h => h) (Or.inl ⟨by rfl, ?_⟩) (by assumption) ?_
              rotate_left 1
              · (intro w hSw; (try dsimp only at hSw); (try simp only [List.getElem_toArray, List.getElem_cons_succ, List.getElem_cons_zero]); go_simp) <;> (with_reducible rfl)
              try simp only [List.getElem_toArray, List.getElem_cons_succ, List.getElem_cons_zero]
              try simp only [Act.put, List.setIfInBounds_toArray, List.set_cons_zero, List.set_cons_succ]
              refine wpAnyH_take (i := 25) (v := ?_) rfl (by kernel_rfl) (by kernel_rfl) (by kernel_rfl) (fun _ _ _ h => h) (Or.inl ⟨by rfl, ?_⟩) (by assumption) ?_
              rotate_left 1
              · (intro w hSw; (try dsimp only at hSw); (try simp only [List.getElem_toArray, List.getElem_cons_succ, List.getElem_cons_zero]); go_simp) <;> (with_reducible rfl)
              try simp only [List.getElem_toArray, List.getElem_cons_succ, List.getElem_cons_zero]
              try simp only [Act.put, List.setIfInBounds_toArray, List.set_cons_zero, List.set_cons_succ]
              refine wpAnyH_take (i := 26) (v := ?_) rfl (by kernel_rfl) (by kernel_rfl) (by kernel_rfl) (fun _ _ _ h => h) (Or.inl ⟨by rfl, ?_⟩) (by assumption) ?_
              rotate_left 1
              · (intro w hSw; (try dsimp only at hSw); (try simp only [List.getElem_toArray, List.getElem_cons_succ, List.getElem_cons_zero]); go_simp) <;> (with_reducible rfl)
              try simp only [List.getElem_toArray, List.getElem_cons_succ, List.getElem_cons_zero]
              try simp only [Act.put, List.setIfInBounds_toArray, List.set_cons_zero, List.set_cons_succ]
              refine wpAnyH_take (i := 27) (v := ?_) rfl (by kernel_rfl) (by kernel_rfl) (by kernel_rfl) (fun _ _ _ h => h) (Or.inl ⟨by rfl, ?_⟩) (by assumption) ?_
              rotate_left 1
              · (intro w hSw; (try dsimp only at hSw); (try simp only [List.getElem_toArray, List.getElem_cons_succ, List.getElem_cons_zero]); go_simp) <;> (with_reducible rfl)
              try simp only [List.getElem_toArray, List.getElem_cons_succ, List.getElem_cons_zero]
              try simp only [Act.put, List.setIfInBounds_toArray, List.set_cons_zero, List.set_cons_succ]
              refine wpAnyH_take (i := 28) (v := ?_) rfl (by kernel_rfl) (by kernel_rfl) (by kernel_rfl) (fun _ _ _ h => h) (Or.inl ⟨by rfl, ?_⟩) (by assumption) ?_
              rotate_left 1
              · (intro w hSw; (try dsimp only at hSw); (try simp only [List.getElem_toArray, List.getElem_cons_succ, List.getElem_cons_zero]); go_simp) <;> (with_reducible rfl)
              try simp only [List.getElem_toArray, List.getElem_cons_succ, List.getElem_cons_zero]
              try simp only [Act.put, List.setIfInBounds_toArray, List.set_cons_zero, List.set_cons_succ]
              refine wpAnyH_take (i := 29) (v := ?_) rfl (by kernel_rfl) (by kernel_rfl) (by kernel_rfl) (fun _ _ _ h => h) (Or.inl ⟨by rfl, ?_⟩) (by assumption) ?_
              rotate_left 1
              · (intro w hSw; (try dsimp only at hSw); (try simp only [List.getElem_toArray, List.getElem_cons_succ, List.getElem_cons_zero]); go_simp) <;> (with_reducible rfl)
              try simp only [List.getElem_toArray, List.getElem_cons_succ, List.getElem_cons_zero]
              try simp only [Act.put, List.setIfInBounds_toArray, List.set_cons_zero, List.set_cons_succ]
              refine wpAnyH_take (i := 30) (v := ?_) rfl (by kernel_rfl) (by kernel_rfl) (by kernel_rfl) (fun _ _ _ h => h) (Or.inl ⟨by rfl, ?_⟩) (by assumption) ?_
              rotate_left 1
              · (intro w hSw; (try dsimp only at hSw); (try simp only [List.getElem_toArray, List.getElem_cons_succ, List.getElem_cons_zero]); go_simp) <;> (with_reducible rfl)
              try simp only [List.getElem_toArray, List.getElem_cons_succ, List.getElem_cons_zero]
              try simp only [Act.put, List.setIfInBounds_toArray, List.set_cons_zero, List.set_cons_succ]
              refine wpAnyH_take (i := 31) (v := ?_) rfl (by kernel_rfl) (by kernel_rfl) (by kernel_rfl) (fun _ _ _ h => h) (Or.inl ⟨by rfl, ?_⟩) (by assumption) ?_
              rotate_left 1
              · (intro w hSw; (try dsimp only at hSw); (try simp only [List.getElem_toArray, List.getElem_cons_succ, List.getElem_cons_zero]); go_simp) <;> (with_reducible rfl)
              try simp only [List.getElem_toArray, List.getElem_cons_succ, List.getElem_cons_zero]
              try simp only [Act.put, List.setIfInBounds_toArray, List.set_cons_zero, List.set_cons_succ]
              refine wpAnyH_take (i := 32) (v := ?_) rfl (by kernel_rfl) (by kernel_rfl) (by kernel_rfl) (fun _ _ _ h => h) (Or.inl ⟨by rfl, ?_⟩) (by assumption) ?_
              rotate_left 1
              · (intro w hSw; (try dsimp only at hSw); (try simp only [List.getElem_toArray, List.getElem_cons_succ, List.getElem_cons_zero]); go_simp) <;> (with_reducible rfl)
              try simp only [List.getElem_toArray, List.getElem_cons_succ, List.getElem_cons_zero]
              try simp only [Act.put, List.setIfInBounds_toArray, List.set_cons_zero, List.set_cons_succ]
              refine wpAnyH_take (i := 33) (v := ?_) rfl (by kernel_rfl) (by kernel_rfl) (by kernel_rfl) (fun _ _ _ h => h) (Or.inl ⟨by rfl, ?_⟩) (by assumption) ?_
              rotate_left 1
              · (intro w hSw; (try dsimp only at hSw); (try simp only [List.getElem_toArray, List.getElem_cons_succ, List.getElem_cons_zero]); go_simp) <;> (with_reducible rfl)
              try simp only [List.getElem_toArray, List.getElem_cons_succ, List.getElem_cons_zero]
              try simp only [Act.put, List.setIfInBounds_toArray, List.set_cons_zero, List.set_cons_succ]
              refine wpAnyH_take (i := 34) (v := ?_) rfl (by kernel_rfl) (by kernel_rfl) (by kernel_rfl) (fun _ _ _ h => h) (Or.inl ⟨by rfl, ?_⟩) (by assumption) ?_
              rotate_left 1
              · (intro w hSw; (try dsimp only at hSw); (try simp only [List.getElem_toArray, List.getElem_cons_succ, List.getElem_cons_zero]); go_simp) <;> (with_reducible rfl)
              try simp only [List.getElem_toArray, List.getElem_cons_succ, List.getElem_cons_zero]
              try simp only [Act.put, List.setIfInBounds_toArray, List.set_cons_zero, List.set_cons_succ]
              refine wpAnyH_take (i := 35) (v := ?_) rfl (by kernel_rfl) (by kernel_rfl) (by kernel_rfl) (fun _ _ _ h => h) (Or.inl ⟨by rfl, ?_⟩) (by assumption) ?_
              rotate_left 1
              · (intro w hSw; (try dsimp only at hSw); (try simp only [List.getElem_toArray, List.getElem_cons_succ, List.getElem_cons_zero]); go_simp) <;> (with_reducible rfl)
              try simp only [List.getElem_toArray, List.getElem_cons_succ, List.getElem_cons_zero]
              try simp only [Act.put, List.setIfInBounds_toArray, List.set_cons_zero, List.set_cons_succ]
              refine wpAnyH_take (i := 36) (v := ?_) rfl (by kernel_rfl) (by kernel_rfl) (by kernel_rfl) (fun _ _ _ h => h) (Or.inl ⟨by rfl, ?_⟩) (by assumption) ?_
              rotate_left 1
              · (intro w hSw; (try dsimp only at hSw); (try simp only [List.getElem_toArray, List.getElem_cons_succ, List.getElem_cons_zero]); go_simp) <;> (with_reducible rfl)
              try simp only [List.getElem_toArray, List.getElem_cons_succ, List.getElem_cons_zero]
              try simp only [Act.put, List.setIfInBounds_toArray, List.set_cons_zero, List.set_cons_succ]
              refine wpAnyH_take (i := 37) (v := ?_) rfl (by kernel_rfl) (by kernel_rfl) (by kernel_rfl) (fun _ _ _ h => h) (Or.inl ⟨by rfl, ?_⟩) (by assumption) ?_
              rotate_left 1
              · (intro w hSw; (try dsimp only at hSw); (try simp only [List.getElem_toArray, List.getElem_cons_succ, List.getElem_cons_zero]); go_simp) <;> (with_reducible rfl)
              try simp only [List.getElem_toArray, List.getElem_cons_succ, List.getElem_cons_zero]
              try simp only [Act.put, List.setIfInBounds_toArray, List.set_cons_zero, List.set_cons_succ]
              refine wpAnyH_take (i := 38) (v := ?_) rfl (by kernel_rfl) (by kernel_rfl) (by kernel_rfl) (fun _ _ _ h => h) (Or.inl ⟨by rfl, ?_⟩) (by assumption) ?_
              rotate_left 1
              · (intro w hSw; (try dsimp only at hSw); (try simp only [List.getElem_toArray, List.getElem_cons_succ, List.getElem_cons_zero]); go_simp) <;> (with_reducible rfl)
              try simp only [List.getElem_toArray, List.getElem_cons_succ, List.getElem_cons_zero]
              try simp only [Act.put, List.setIfInBounds_toArray, List.set_cons_zero, List.set_cons_succ]
              refine wpAnyH_take (i := 39) (v := ?_) rfl (by kernel_rfl) (by kernel_rfl) (by kernel_rfl) (fun _ _ _ h => h) (Or.inl ⟨by rfl, ?_⟩) (by assumption) ?_
              rotate_left 1
              · (intro w hSw; (try dsimp only at hSw); (try simp only [List.getElem_toArray, List.getElem_cons_succ, List.getElem_cons_zero]); go_simp) <;> (with_reducible rfl)
              try simp only [List.getElem_toArray, List.getElem_cons_succ, List.getElem_cons_zero]
              try simp only [Act.put, List.setIfInBounds_toArray, List.set_cons_zero, List.set_cons_succ]
              refine wpAnyH_take (i := 40) (v := ?_) rfl (by kernel_rfl) (by kernel_rfl) (by kernel_rfl) (fun _ _ _ h => h) (Or.inl ⟨by rfl, ?_⟩) (by assumption) ?_
              rotate_left 1
              · (intro w hSw; (try dsimp only at hSw); (try simp only [List.getElem_toArray, List.getElem_cons_succ, List.getElem_cons_zero]); go_simp) <;> (with_reducible rfl)
              try simp only [List.getElem_toArray, List.getElem_cons_succ, List.getElem_cons_zero]
              try simp only [Act.put, List.setIfInBounds_toArray, List.set_cons_zero, List.set_cons_succ]
              refine wpAnyH_ready (rs := [41]) (by kernel_rfl) (by simp) ?_
              refine AllReadyH.cons rfl (fun K hK => ?_) AllReadyH.nil
              simp only [List.getElem_toArray, List.getElem_cons_succ, List.getElem_cons_zero]
              go_simp
              go_at_call 22
              (with_reducible refine (V1.out _ ?_).mono ?_)
              · assumption
              rintro e w' ⟨rfl, hS⟩
              try go_wp2_with fail
              refine hK.out _ _ hS (fun hHeld => ?_)
              clear hK K
              try simp only [Act.put, List.setIfInBounds_toArray, List.set_cons_zero, List.set_cons_succ]
              refine wpAnyH_take (i := 42) (v := ?_) rfl (by kernel_rfl) (by kernel_rfl) (by kernel_rfl) (fun _ _ _ h => h) (Or.inl ⟨by rfl, ?_⟩) (by assumption) ?_
              rotate_left 1
              · (intro w hSw; (try dsimp only at hSw); (try simp only [List.getElem_toArray, List.getElem_cons_succ, List.getElem_cons_zero]); go_simp) <;> (with_reducible rfl)
              try simp only [List.getElem_toArray, List.getElem_cons_succ, List.getElem_cons_zero]
              try simp only [Act.put, List.setIfInBounds_toArray, List.set_cons_zero, List.set_cons_succ]
              refine wpAnyH_take (i := 43) (v := ?_) rfl (by kernel_rfl) (by kernel_rfl) (by kernel_rfl) (fun _ _ _ h => h) (Or.inl ⟨by rfl, ?_⟩) (by assumption) ?_
              rotate_left 1
              · (intro w hSw; (try dsimp only at hSw); (try simp only [List.getElem_toArray, List.getElem_cons_succ, List.getElem_cons_zero]); go_simp) <;> (with_reducible rfl)
              try simp only [List.getElem_toArray, List.getElem_cons_succ, List.getElem_cons_zero]
              try simp only [Act.put, List.setIfInBounds_toArray, List.set_cons_zero, List.set_cons_succ]
              refine wpAnyH_take (i := 44) (v := ?_) rfl (by kernel_rfl) (by kernel_rfl) (by kernel_rfl) (fun _ _ _ h => h) (Or.inl ⟨by rfl, ?_⟩) (by assumption) ?_
              rotate_left 1
              · (intro w hSw; (try dsimp only at hSw); (try simp only [List.getElem_toArray, List.getElem_cons_succ, List.getElem_cons_zero]); go_simp) <;> (with_reducible rfl)
              try simp only [List.getElem_toArray, List.getElem_cons_succ, List.getElem_cons_zero]
              try simp only [Act.put, List.setIfInBounds_toArray, List.set_cons_zero, List.set_cons_succ]
              refine wpAnyH_take (i := 45) (v := ?_) rfl (by kernel_rfl) (by kernel_rfl) (by kernel_rfl) (fun _ _ _ h => h) (Or.inl ⟨by rfl, ?_⟩) (by assumption) ?_
              rotate_left 1
              · (intro w hSw; (try dsimp only at hSw); (try simp only [List.getElem_toArray, List.getElem_cons_succ, List.getElem_cons_zero]); go_simp) <;> (with_reducible rfl)
              try simp only [List.getElem_toArray, List.getElem_cons_succ, List.getElem_cons_zero]
              try simp only [Act.put, List.setIfInBounds_toArray, List.set_cons_zero, List.set_cons_succ]
              refine wpAnyH_take (i := 46) (v := ?_) rfl (by kernel_rfl) (by kernel_rfl) (by kernel_rfl) (fun _ _ _ h => h) (Or.inl ⟨by rfl, ?_⟩) (by assumption) ?_
              rotate_left 1
              · (intro w hSw; (try dsimp only at hSw); (try simp only [List.getElem_toArray, List.getElem_cons_succ, List.getElem_cons_zero]); go_simp) <;> (with_reducible rfl)
              try simp only [List.getElem_toArray, List.getElem_cons_succ, List.getElem_cons_zero]
              try simp only [Act.put, List.setIfInBounds_toArray, List.set_cons_zero, List.set_cons_succ]
              refine wpAnyH_take (i := 47) (v := ?_) rfl (by kernel_rfl) (by kernel_rfl) (by kernel_rfl) (fun _ _ _ h => h) (Or.inl ⟨by rfl, ?_⟩) (by assumption) ?_
              rotate_left 1
              · (intro w hSw; (try dsimp only at hSw); (try simp only [List.getElem_toArray, List.getElem_cons_succ, List.getElem_cons_zero]); go_simp) <;> (with_reducible rfl)
              try simp only [List.getElem_toArray, List.getElem_cons_succ, List.getElem_cons_zero]
              try simp only [Act.put, List.setIfInBounds_toArray, List.set_cons_zero, List.set_cons_succ]
              refine wpAnyH_take (i := 48) (v := ?_) rfl (by kernel_rfl) (by kernel_rfl) (by kernel_rfl) (fun _ _ _ h => h) (Or.inl ⟨by rfl, ?_⟩) (by assumption) ?_
              rotate_left 1
              · (intro w hSw; (try dsimp only at hSw); (try simp only [List.getElem_toArray, List.getElem_cons_succ, List.getElem_cons_zero]); go_simp) <;> (with_reducible rfl)
              try simp only [List.getElem_toArray, List.getElem_cons_succ, List.getElem_cons_zero]
              try simp only [Act.put, List.setIfInBounds_toArray, List.set_cons_zero, List.set_cons_succ]
              refine wpAnyH_ready (rs := [49]) (by kernel_rfl) (by simp) ?_
              refine AllReadyH.cons rfl (fun K hK => ?_) AllReadyH.nil
              simp only [List.getElem_toArray, List.getElem_cons_succ, List.getElem_cons_zero]
              go_simp
              go_at_call 22
              (with_reducible refine (V2.out _ ?_).mono ?_)
              · assumption
              rintro e w' ⟨rfl, hS⟩
              try go_wp2_with fail
              refine hK.out _ _ hS (fun hHeld => ?_)
              clear hK K
              try simp only [Act.put, List.setIfInBounds_toArray, List.set_cons_zero, List.set_cons_succ]
              refine wpAnyH_take (i := 50) (v := ?_) rfl (by kernel_rfl) (by kernel_rfl) (by kernel_rfl) (fun _ _ _ h => h) (Or.inl ⟨by rfl, ?_⟩) (by assumption) ?_
              rotate_left 1
              · (intro w hSw; (try dsimp only at hSw); (try simp only [List.getElem_toArray, List.getElem_cons_succ, List.getElem_cons_zero]); go_simp) <;> (with_reducible rfl)
              try simp only [List.getElem_toArray, List.getElem_cons_succ, List.getElem_cons_zero]
              try simp only [Act.put, List.setIfInBounds_toArray, List.set_cons_zero, List.set_cons_succ]
              refine wpAnyH_take (i := 51) (v := ?_) rfl (by kernel_rfl) (by kernel_rfl) (by kernel_rfl) (fun _ _ _ h => h) (Or.inl ⟨by rfl, ?_⟩) (by assumption) ?_
              rotate_left 1
              · (intro w hSw; (try dsimp only at hSw); (try simp only [List.getElem_toArray, List.getElem_cons_succ, List.getElem_cons_zero]); go_simp) <;> (with_reducible rfl)
              try simp only [List.getElem_toArray, List.getElem_cons_succ, List.getElem_cons_zero]
              try simp only [Act.put, List.setIfInBounds_toArray, List.set_cons_zero, List.set_cons_succ]
              refine wpAnyH_done (by kernel_rfl) ?_ _
              have mv := hS.2.2.2.2.2.2.2.2.2.2.2.2.2.2.2.2.2.2.2.2.2.2.2.2
              clear hS
              go_wp2_with fail
              refine (awake_any _).mono ?_
              rintro e w5 ⟨rfl, b5⟩
              go_wp2_with fail
              go_ret
              exact ⟨ret_bool rfl, by rw [HN.out]; exact mv.bel.trans (b5.mono (by have := mv.le; have := mv.xl; have := mv.nx; omega))⟩
          | false =>
          have HA : Hid (∀ j, j < k + 1 → (ot.getD j default).kind = rk → I.like (ot.getD j default) (⟨rk, ri, rp, rt_, rl, rb, rr, rlb⟩ : I.Rg) ≤ 100 ∧ I.like (ot.getD j default) (⟨rk, ri, rp, T, L, Bo, R, rlb⟩ : I.Rg) ≤ 100) := Lib.hid (fun j hj he => by
            by_cases e : j = k
            · subst e; rw [HO.out, HV1.out, HV2.out]; omega
            · exact HAP.out j (by omega) he)
          as_aux_lemma =>
            go_wp2_with fail
            first | (go_region_held3 (fun w' => w'.cell? ⟨ba, oa + k * 8, none⟩ = some (.int .i64 rk) ∧ w'.cell? ⟨ba, oa + k * 8 + 1, none⟩ = some (.int .i64 oi) ∧ w'.cell? ⟨ba, oa + k * 8 + 2, none⟩ = some (.int .i64 op) ∧ w'.cell? ⟨ba, oa + k * 8 + 3, none⟩ = some (.int .i64 ot_) ∧ w'.cell? ⟨ba, oa + k * 8 + 4, none⟩ = some (.int .i64 ol) ∧ w'.cell? ⟨ba, oa + k * 8 + 5, none⟩ = some (.int .i64 ob) ∧ w'.cell? ⟨ba, oa + k * 8 + 6, none⟩ = some (.int .i64 or_) ∧ w'.cell? ⟨ba, oa + k * 8 + 7, none⟩ = some (.string olb) ∧ w'.cell? ⟨N, 0, none⟩ = some (.int .i64 rk) ∧ w'.cell? ⟨N, 1, none⟩ = some (.int .i64 ri) ∧ w'.cell? ⟨N, 2, none⟩ = some (.int .i64 rp) ∧ w'.cell? ⟨N, 3, none⟩ = some (.int .i64 rt_) ∧ w'.cell? ⟨N, 4, none⟩ = some (.int .i64 rl) ∧ w'.cell? ⟨N, 5, none⟩ = some (.int .i64 rb) ∧ w'.cell? ⟨N, 6, none⟩ = some (.int .i64 rr) ∧ w'.cell? ⟨N, 7, none⟩ = some (.string rlb) ∧ w'.cell? ⟨X, 0, none⟩ = some (.int .i64 rk) ∧ w'.cell? ⟨X, 1, none⟩ = some (.int .i64 ri) ∧ w'.cell? ⟨X, 2, none⟩ = some (.int .i64 rp) ∧ w'.cell? ⟨X, 3, none⟩ = some (.int .i64 T) ∧ w'.cell? ⟨X, 4, none⟩ = some (.int .i64 L) ∧ w'.cell? ⟨X, 5, none⟩ = some (.int .i64 Bo) ∧ w'.cell? ⟨X, 6, none⟩ = some (.int .i64 R) ∧ w'.cell? ⟨X, 7, none⟩ = some (.string rlb) ∧ I.Mv N X S nl (⟨rk, ri, rp, rt_, rl, rb, rr, rlb⟩ : I.Rg) (⟨rk, ri, rp, T, L, Bo, R, rlb⟩ : I.Rg) (.slice (some ⟨g, 0, none⟩) nl cg) ((⟨rk, 0, rp, rt_, rl, rb, rr, rlb⟩ : I.Rg) :: ot) w w')
              (first | exact S1.out | assumption)
              (first
                | (go_at_call 15; (with_reducible refine (L1.out _ ?_).mono ?_); assumption; rintro e w' ⟨rfl, hS⟩)
                | (go_at_call 15; (with_reducible refine (L2.out _ ?_).mono ?_); assumption; rintro e w' ⟨rfl, hS⟩)
                | (go_at_call 22; (with_reducible refine (V1.out _ ?_).mono ?_); assumption; rintro e w' ⟨rfl, hS⟩)
                | (go_at_call 22; (with_reducible refine (V2.out _ ?_).mono ?_); assumption; rintro e w' ⟨rfl, hS⟩))) | fail
            all_goals
              have mv := hS.2.2.2.2.2.2.2.2.2.2.2.2.2.2.2.2.2.2.2.2.2.2.2.2
              clear hS
              go_wp2_with fail
              refine ⟨⟨k + 1, by omega, by go_num, HA, Lib.hid mv⟩, by simp [intOf]; omega⟩
        · -- OTHER KIND
          have HA : Hid (∀ j, j < k + 1 → (ot.getD j default).kind = rk → I.like (ot.getD j default) (⟨rk, ri, rp, rt_, rl, rb, rr, rlb⟩ : I.Rg) ≤ 100 ∧ I.like (ot.getD j default) (⟨rk, ri, rp, T, L, Bo, R, rlb⟩ : I.Rg) ≤ 100) := Lib.hid (fun j hj he => by
            by_cases e : j = k
            · subst e; exact absurd he hkd
            · exact hap.out j (by omega) he)
          have hb : ((ot.getD k default).kind == rk) = false := beq_eq_false_iff_ne.2 hkd
          generalize ot.getD k default = o at *
          obtain ⟨z0, z1, z2, z3, z4, z5, z6, z7⟩ := ao
          clear hkd
          go_wp2_with fail
          go_quiet (fail)
          go_wp2_with fail
          refine ⟨⟨k + 1, by omega, by go_num, HA, Lib.hid (hmv.out.below (below_drewN (Below.refl _ _) _))⟩, by simp [intOf]; omega⟩
      · obtain rfl : k = ot.length := by omega
        have q2 : ((ot.length : Int) < (ot.length : Int)) = False := eq_false (by omega)
        have MV1 : Hid (I.Mv N X S nl (⟨rk, ri, rp, rt_, rl, rb, rr, rlb⟩ : I.Rg) (⟨rk, ri, rp, T, L, Bo, R, rlb⟩ : I.Rg) (.slice (some ⟨g, 0, none⟩) nl cg) (I.nk ((⟨rk, 0, rp, rt_, rl, rb, rr, rlb⟩ : I.Rg) :: ot) 0) w wr) := Lib.hid (by rw [I.nk_zero]; exact hmv.out)
        have HLEN : Hid (((⟨rk, 0, rp, rt_, rl, rb, rr, rlb⟩ : I.Rg) :: ot).length = nl) := Lib.hid (by rw [List.length_cons]; omega)
        -- what is known of the numbers
        have HMO : Hid (∀ N', Go.Proofs.Ytoemhphgnpedmaa.A.Best (I.dim ((⟨rk, ri, rp, T, L, Bo, R, rlb⟩ : I.Rg) :: ot) (I.nk ((⟨rk, 0, rp, rt_, rl, rb, rr, rlb⟩ : I.Rg) :: ot) nl)) (I.cst ((⟨rk, ri, rp, T, L, Bo, R, rlb⟩ : I.Rg) :: ot) (I.nk ((⟨rk, 0, rp, rt_, rl, rb, rr, rlb⟩ : I.Rg) :: ot) nl)) N' → I.ident ((⟨rk, ri, rp, T, L, Bo, R, rlb⟩ : I.Rg) :: ot) (I.nk ((⟨rk, 0, rp, rt_, rl, rb, rr, rlb⟩ : I.Rg) :: ot) nl) N' ((nl : Int) + un) 0 = 0) := Lib.hid (fun N' hb => by
          have p0 := (I.proper_iff _).1 HP0.out
          simp only at p0
          have t1 : T = rt_ + dn := by rw [← HT.out]; exact I.wrap_in (by omega)
          have t2 : Bo = rb + dn := by rw [← HBo.out]; exact I.wrap_in (by omega)
          have t3 : L = rl + rt := by rw [← HL.out]; exact I.wrap_in (by omega)
          have t4 : R = rr + rt := by rw [← HRR.out]; exact I.wrap_in (by omega)
          have e : nl = ot.length + 1 := by omega
          subst e
          refine I.moves (r := (⟨rk, ri, rp, rt_, rl, rb, rr, rlb⟩ : I.Rg)) (m := (⟨rk, ri, rp, T, L, Bo, R, rlb⟩ : I.Rg)) rfl rfl ?_ ?_ HP0.out HP1.out ?_ ?_ hb _
          · simp only; omega
          · simp only; omega
          · intro i hi
            by_cases hk' : (ot.getD i default).kind = rk
            · have := (hap.out i hi hk').1; omega
            · rw [I.like_kind hk']; omega
          · intro i hi
            by_cases hk' : (ot.getD i default).kind = rk
            · have := (hap.out i hi hk').2; omega
            · rw [I.like_kind hk']; omega)
        clear hap hmv HP0 HP1 HT HBo HL HRR
        go_wp2_with fail
        go_loopw [149] (fun i wr => ∃ m : Nat, m ≤ nl ∧ i = .int .i64 m ∧ Hid (I.Mv N X S nl (⟨rk, ri, rp, rt_, rl, rb, rr, rlb⟩ : I.Rg) (⟨rk, ri, rp, T, L, Bo, R, rlb⟩ : I.Rg) (.slice (some ⟨g, 0, none⟩) nl cg) (I.nk ((⟨rk, 0, rp, rt_, rl, rb, rr, rlb⟩ : I.Rg) :: ot) m) w wr)) (fun i _ => nl - (intOf i).toNat)
        case atStart => exact ⟨0, Nat.zero_le _, rfl, MV1⟩
        case round =>
          clear MV1
          obtain ⟨m, hm, rfl, hmv⟩ := hrel
          by_cases hml : m < nl
          · have hlen : (I.nk ((⟨rk, 0, rp, rt_, rl, rb, rr, rlb⟩ : I.Rg) :: ot) m).length = nl := by rw [I.nk_len _ (by rw [HLEN.out]; omega), HLEN.out]
            have c1 := (I.own_at hmv.out.own (i := m) (by rw [hlen]; exact hml)).c1
            have f1 := hmv.out.own.frozenAt (m * 8 + 1)
            have hst := Lib.hid (hmv.out.store hg1 (i := m) (by rw [hlen]; exact hml) (m : Int))
            have q1 : (0 : Int) ≤ (m : Int) := by omega
            have q2 : (m : Int) < (nl : Int) := by omega
            clear hlen
            go_wp2_with fail
            refine ⟨⟨m + 1, by omega, by go_num, Lib.hid ?_⟩, by simp [intOf]; omega⟩
            have h := hst.out
            rw [I.nk_succ _ (by rw [HLEN.out]; exact hml)] at h
            exact h
          · obtain rfl : m = nl := by omega
            have q3 : ((m : Int) < (m : Int)) = False := eq_false (by omega)
            obtain ⟨y0, y1, y2, y3, y4, y5, y6, y7⟩ := hmv.out.m
            simp only [Nat.zero_add] at y0 y1 y2 y3 y4 y5 y6 y7
            have own0 : (wr.alloc (.cells (⟨rk, ri, rp, T, L, Bo, R, rlb⟩ : I.Rg).cells.toArray 27)).ownsRow wr.heap.size 27 8 (.slice (some ⟨wr.heap.size, 0, none⟩) 1 1) 1 (⟨rk, ri, rp, T, L, Bo, R, rlb⟩ : I.Rg).cells := World.ownsRow_lit (base := wr.heap.size) (e := 27) (size := 8) wr (⟨rk, ri, rp, T, L, Bo, R, rlb⟩ : I.Rg).cells.toArray 1 (Nat.le_refl _) (by decide) rfl
            have b0 : Below wr.heap.size wr (wr.alloc (.cells (⟨rk, ri, rp, T, L, Bo, R, rlb⟩ : I.Rg).cells.toArray 27)) := (Below.refl _ _).alloc (Nat.le_refl _) _
            have rO : Reads (wr.alloc (.cells (⟨rk, ri, rp, T, L, Bo, R, rlb⟩ : I.Rg).cells.toArray 27)) N 8 A ot.length (I.rcs ot) := HR.out.below (hmv.out.bel.trans (b0.mono (by have := hmv.out.le; have := hmv.out.xl; have := hmv.out.nx; omega))) (Nat.le_refl _)
            go_wp2_with (at_builtin; refine wpList_append_any _ rfl (.tmp 159) (.tmp 160) 22 rfl wr.heap.size 27 i0 _ 8 72 Try.underlying22 hi hz0 hz1 hz2 rfl (by decide) (.slice (some ⟨wr.heap.size, 0, none⟩) 1 1) 1 (⟨rk, ri, rp, T, L, Bo, R, rlb⟩ : I.Rg).cells rfl own0 N A ot.length c (I.rcs ot) rfl rO (I.rcs_one _) (by simp only [maxLen]; omega) (by omega) b0.size ?_; intro v5 W5 hown5 hgrow5 hnew5; (have b5 : Below wr.heap.size wr W5 := b0.grown hgrow5 b0.size (own_below own0 (Nat.le_refl _))); (have O5 : W5.ownsRow wr.heap.size 27 8 v5 m (I.rcs ((⟨rk, ri, rp, T, L, Bo, R, rlb⟩ : I.Rg) :: ot)) := (by rw [← HNL.out]; exact hown5)); (obtain ⟨g5, cg5, rfl, hg5, hg6⟩ := O5.form (by omega)); (have HO5 := Lib.hid O5); (have HM5 := Lib.hid (hmv.out.below b5)); (clear own0 b0 rO hgrow5 hnew5 hown5 O5 y0 y1 y2 y3 y4 y5 y6 y7 b5))
            have MT : Hid (Calls Try.prog 16 #[.slice (some ⟨g, 0, none⟩) m cg, .slice (some ⟨g5, 0, none⟩) m cg5, .int .i64 ((m : Int) + un)] W5 fun e w' => I.MvOut m W5 w' e) := Lib.hid (by
              have hlo : (I.nk ((⟨rk, 0, rp, rt_, rl, rb, rr, rlb⟩ : I.Rg) :: ot) m).length = m := by rw [I.nk_len _ (by rw [HLEN.out]; omega), HLEN.out]
              have hln : ((⟨rk, ri, rp, T, L, Bo, R, rlb⟩ : I.Rg) :: ot).length = m := by rw [List.length_cons]; omega
              have h := matchun_any W5.heap.size (some ⟨g, 0, none⟩) (some ⟨g5, 0, none⟩) cg cg5 (I.nk ((⟨rk, 0, rp, rt_, rl, rb, rr, rlb⟩ : I.Rg) :: ot) m) ((⟨rk, ri, rp, T, L, Bo, R, rlb⟩ : I.Rg) :: ot) ((m : Int) + un) W5 (by rw [hlo]; exact Reads.of_own HM5.out.own) (by rw [hln]; exact Reads.of_own HO5.out) (Nat.le_refl _) (by rw [hlo]; exact own_cap HM5.out.own) (by rw [hln]; exact own_cap HO5.out) (by rw [hlo]; omega) (by rw [hln]; omega) (by omega)
              rw [hlo, hln] at h
              refine h.mono ?_
              rintro e w' ⟨N', Ar, c2, rfl, own, best, b⟩
              rw [hln] at own ⊢
              obtain ⟨gr, c2', e2, _, _⟩ := own.form (by omega)
              injection e2 with e3 e4 e5
              subst e3 e5
              have hid := (I.own_at own (i := 0) (by rw [I.outs_length, hln]; omega)).c1
              rw [I.outs_get _ _ _ _ (by rw [hln]; omega)] at hid
              unfold I.outR at hid
              simp only at hid
              rw [HMO.out N' best] at hid
              simp only [Nat.zero_mul, Nat.zero_add] at hid
              exact ⟨gr, _, _, rfl, hid, b⟩)
            have HBL := Lib.hid HM5.out.bel
            have hNW : N ≤ W5.heap.size := by have := HM5.out.le; have := HM5.out.xl; have := HM5.out.nx; omega
            clear HM5 HO5 HMO HLEN HNL
            refine MT.out.mono ?_
            rintro e W6 ⟨gr, c2, x, rfl, cc, b6⟩
            have IX := run_first gr m c2 (by omega)
            have q4 : ((m : Int) == (m : Int)) = true := beq_self_eq_true _
            go_wp2_with fail
            refine (awake_any _).mono ?_
            rintro e w7 ⟨rfl, b7⟩
            go_wp2_with fail
            go_ret
            exact ⟨ret_bool rfl, by rw [HN.out]; exact HBL.out.trans ((b6.mono hNW).trans (b7.mono (Nat.le_trans hNW b6.size)))⟩
theorem moveslaw_any (A : Option Addr) (c : Nat) (ot : List I.Rg) (r : I.Rg) (dn rt un : Int) (w : World) (hr : Reads w w.heap.size 8 A ot.length (I.rcs ot)) (ho : I.Ok ot) (_ : ∀ r ∈ ot, I.Num r) (hc : ot.length ≤ c) (hrn : I.Num r) (_ : -9223372036854775808 ≤ dn) (_ : dn ≤ 9223372036854775807) (_ : -9223372036854775808 ≤ rt) (_ : rt ≤ 9223372036854775807) (_ : -9223372036854775808 ≤ un) (_ : un ≤ 9223372036854775807) :
    Calls Try.prog 9 #[.slice A ot.length c, r.val, .int .i64 dn, .int .i64 rt, .int .i64 un] w fun e w' => e = .returned (.bool true) ∧ Below w.heap.size w w' := movelaw_any A c ot r dn rt un w hr ho hc hrn
end Go.Proofs.Ytoemhphgnpedmaa
