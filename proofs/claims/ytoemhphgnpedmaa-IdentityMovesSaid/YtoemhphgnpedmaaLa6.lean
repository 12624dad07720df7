/-
  The statements of layer 30: IdentityMeasure. By an AI agent.
-/
import Derived.Test.YtoemhphgnpedmaaLa4
import Derived.Test.YtoemhphgnpedmaaSm
namespace Go.Proofs.Ytoemhphgnpedmaa
open Go.RowKit

theorem I.At.new (r : I.Rg) (w : World) : I.At (w.alloc (.cells r.cells.toArray 27)) w.heap.size 0 r := I.at_block (C.heap_new w _)
/-- Two regions in their boxes. -/
def I.Bx (N : Nat) (a b : I.Rg) (w W : World) : Prop := I.At W N 0 a ∧ I.At W (N + 1) 0 b ∧ N + 1 < W.heap.size ∧ Below N w W
theorem I.Bx.below {N : Nat} {a b : I.Rg} {w W W' : World} (h : I.Bx N a b w W) (hb : Below W.heap.size W W') : I.Bx N a b w W' :=
  ⟨h.1.below hb (by have := h.2.2.1; omega), h.2.1.below hb h.2.2.1, Nat.lt_of_lt_of_le h.2.2.1 hb.size, h.2.2.2.trans (hb.mono (by have := h.2.2.1; omega))⟩
theorem I.Bx.new (a b : I.Rg) (w : World) : I.Bx w.heap.size a b w ((w.alloc (.cells a.cells.toArray 27)).alloc (.cells b.cells.toArray 27)) := by
  have h1 := C.heap_new w (.cells a.cells.toArray 27)
  have h2 := C.heap_new (w.alloc (.cells a.cells.toArray 27)) (.cells b.cells.toArray 27)
  simp only [World.size_alloc] at h2
  exact ⟨I.at_block ((Below.heap_alloc _ _ _ (by simp)).trans h1), I.at_block h2, by simp, ((Below.refl _ w).alloc (Nat.le_refl _) _).alloc (by simp) _⟩

set_option maxRecDepth 100000 in
set_option maxHeartbeats 16000000 in
theorem measure_any (a b : I.Rg) (w : World) (hna : I.Num a) (hnb : I.Num b) : Calls Try.prog 6 #[a.val, b.val] w fun e w' => e = .returned (.bool true) ∧ Below w.heap.size w w' := by
  have ha := hna.lab
  have hb := hnb.lab
  unfold maxLen at ha hb
  clear hna hnb
  have T0 := Lib.hid (I.Bx.new a b w)
  have B0 := Lib.hid (((Below.refl w.heap.size w).alloc (Nat.le_refl _) (.cells a.cells.toArray 27)).alloc (by simp) (.cells b.cells.toArray 27))
  have FULL := Lib.hid (I.like_full a b)
  have hbd := I.like_bd a b
  have K1 : Hid (∀ w1 : World, Calls Try.prog 19 #[a.val, b.val] w1 fun e w' => e = .returned (.int .i64 (I.like a b)) ∧ Below w1.heap.size w1 w') := Lib.hid (fun w1 => like_any a b w1)
  have K2 : Hid (∀ w1 : World, Calls Try.prog 19 #[b.val, a.val] w1 fun e w' => e = .returned (.int .i64 (I.like a b)) ∧ Below w1.heap.size w1 w') := Lib.hid (fun w1 => by rw [I.like_comm a b]; exact like_any b a w1)
  have PR : Hid (∀ w1 : World, Calls Try.prog 14 #[a.val] w1 fun e w' => e = .returned (.bool (I.proper a)) ∧ Below w1.heap.size w1 w') := Lib.hid (fun w1 => refproper_any a w1)
  obtain ⟨v, hv⟩ : ∃ v, I.like a b = v := ⟨_, rfl⟩
  rw [hv] at K1 K2 FULL hbd
  clear hv
  obtain ⟨p, hp⟩ : ∃ p, I.proper a = p := ⟨_, rfl⟩
  rw [hp] at PR FULL
  clear hp
  have HQ := Lib.hid (fun w1 => I.eq_run { b with id := a.id, parent := a.parent } a w1)
  obtain ⟨ak, ai, ap, at_, al, ab, ar, alb⟩ := a
  obtain ⟨bk, bi, bp, bt, bl, bb, br, blb⟩ := b
  simp only [I.Rg.val, I.Rg.cells] at K1 K2 PR T0 B0 HQ ha hb ⊢
  have hbig : (200 < alb.size ∨ (¬ 200 < alb.size ∧ 200 < blb.size)) ∨ (¬ 200 < alb.size ∧ ¬ 200 < blb.size) := by omega
  rcases hbig with hbig | ⟨h1, h2⟩
  · rcases hbig with hbig | ⟨h1, h2⟩
    all_goals
      clear K1 K2 T0 PR FULL HQ
      go_enter Try.func6, Try.ntmps6
      go_wp2_with fail
      refine (awake_any _).mono ?_
      rintro e w5 ⟨rfl, b5⟩
      go_wp2_with fail
      go_ret
      exact ⟨rfl, B0.out.trans (b5.mono B0.out.size)⟩
  · go_enter Try.func6, Try.ntmps6
    go_wp2_with fail
    refine (K1.out _).mono ?_
    rintro e' w1 ⟨rfl, b1⟩
    have T1 := Lib.hid (T0.out.below b1)
    clear b1 T0 B0 K1
    obtain ⟨N, hN⟩ : ∃ N, w.heap.size = N := ⟨_, rfl⟩
    rw [hN] at T1 ⊢
    have HN := Lib.hid hN
    clear hN
    obtain ⟨⟨x0, x1, x2, x3, x4, x5, x6, x7⟩, ⟨y0, y1, y2, y3, y4, y5, y6, y7⟩, t3, t4⟩ := T1.out
    simp only [Nat.zero_add] at x0 x1 x2 x3 x4 x5 x6 x7 y0 y1 y2 y3 y4 y5 y6 y7
    have c1 : ∀ o : Obj, (w1.alloc o).cell? ⟨N, 1, none⟩ = some (.int .i64 ai) := fun _ => (World.cell?_alloc_lt w1 _ ⟨N, 1, none⟩ (by show N < w1.heap.size; omega)).trans x1
    have c2 : ∀ o : Obj, (w1.alloc o).cell? ⟨N, 2, none⟩ = some (.int .i64 ap) := fun _ => (World.cell?_alloc_lt w1 _ ⟨N, 2, none⟩ (by show N < w1.heap.size; omega)).trans x2
    go_upto_region 5 with fail
    go_cut [6] (fun s6 wx => ∃ X : Nat, s6 = .pointer (some ⟨X, 0, none⟩) ∧ I.At wx X 0 (⟨bk, ai, ap, bt, bl, bb, br, blb⟩ : I.Rg) ∧ I.Bx N (⟨ak, ai, ap, at_, al, ab, ar, alb⟩ : I.Rg) (⟨bk, bi, bp, bt, bl, bb, br, blb⟩ : I.Rg) w wx ∧ X < wx.heap.size)
    case first =>
      go_region
      all_goals
        go_wp2_with fail
        go_meet
        exact ⟨w1.heap.size, rfl, (I.At.new (⟨bk, ai, ap, bt, bl, bb, br, blb⟩ : I.Rg) w1).drewN 1, T1.out.below ((Below.refl _ _).alloc (Nat.le_refl _) _).drew, by simp⟩
    case rest =>
      clear x0 x1 x2 x3 x4 x5 x6 x7 y0 y1 y2 y3 y4 y5 y6 y7 t3 t4 c1 c2
      obtain ⟨X, rfl, hz, hbx, hX⟩ := hcut
      have T2 := Lib.hid hbx
      have Z1 := Lib.hid hz
      have hq0 : (0 ≤ v) = True := eq_true hbd.1
      have hq1 : (v ≤ 1000) = True := eq_true hbd.2
      have fin : ∀ W : World, I.Bx N ⟨ak, ai, ap, at_, al, ab, ar, alb⟩ ⟨bk, bi, bp, bt, bl, bb, br, blb⟩ w W → Below N w W := fun _ h => h.2.2.2
      have LAY : Hid (∀ W, Below wc.heap.size wc W → I.At W X 0 (⟨bk, ai, ap, bt, bl, bb, br, blb⟩ : I.Rg) ∧ I.At W N 0 (⟨ak, ai, ap, at_, al, ab, ar, alb⟩ : I.Rg) ∧ I.At W (N + 1) 0 (⟨bk, bi, bp, bt, bl, bb, br, blb⟩ : I.Rg) ∧ Below N w W ∧ N < W.heap.size) := Lib.hid (fun W h => ⟨Z1.out.below h hX, (T2.out.below h).1, (T2.out.below h).2.1, (T2.out.below h).2.2.2, by have := (T2.out.below h).2.2.1; omega⟩)
      have L0 := LAY.out wc (Below.refl _ _)
      have cases3 : (v = 1000 ∧ p = true ∧ (⟨bk, ai, ap, bt, bl, bb, br, blb⟩ : I.Rg) = (⟨ak, ai, ap, at_, al, ab, ar, alb⟩ : I.Rg)) ∨ (v ≠ 1000 ∧ ¬ ((⟨bk, ai, ap, bt, bl, bb, br, blb⟩ : I.Rg) = (⟨ak, ai, ap, at_, al, ab, ar, alb⟩ : I.Rg))) ∨ (v ≠ 1000 ∧ p = false ∧ (⟨bk, ai, ap, bt, bl, bb, br, blb⟩ : I.Rg) = (⟨ak, ai, ap, at_, al, ab, ar, alb⟩ : I.Rg)) := by
        by_cases hv : v = 1000
        · exact .inl ⟨hv, (FULL.out.1 hv).2, (FULL.out.1 hv).1⟩
        · by_cases he : (⟨bk, ai, ap, bt, bl, bb, br, blb⟩ : I.Rg) = (⟨ak, ai, ap, at_, al, ab, ar, alb⟩ : I.Rg)
          · refine .inr (.inr ⟨hv, ?_, he⟩)
            cases p
            · rfl
            · exact absurd (FULL.out.2 ⟨he, rfl⟩) hv
          · exact .inr (.inl ⟨hv, he⟩)
      clear FULL
      obtain ⟨⟨z0, z1, z2, z3, z4, z5, z6, z7⟩, ⟨x0, x1, x2, x3, x4, x5, x6, x7⟩, ⟨y0, y1, y2, y3, y4, y5, y6, y7⟩, hbl, hwc⟩ := L0
      simp only [Nat.zero_add] at x0 x1 x2 x3 x4 x5 x6 x7 y0 y1 y2 y3 y4 y5 y6 y7 z0 z1 z2 z3 z4 z5 z6 z7
      clear hbl hwc
      rcases cases3 with ⟨rfl, rfl, he⟩ | ⟨hv, he⟩ | ⟨hv, rfl, he⟩
      · simp only [decide_eq_true he] at HQ
        clear he
        have Q := HQ.out
        clear HQ
        go_wp2_with fail
        refine (K2.out _).mono ?_
        rintro e2 w2 ⟨rfl, b2⟩
        obtain ⟨⟨z0, z1, z2, z3, z4, z5, z6, z7⟩, ⟨x0, x1, x2, x3, x4, x5, x6, x7⟩, ⟨y0, y1, y2, y3, y4, y5, y6, y7⟩, hbl, hwc⟩ := LAY.out w2 b2
        simp only [Nat.zero_add] at x0 x1 x2 x3 x4 x5 x6 x7 y0 y1 y2 y3 y4 y5 y6 y7 z0 z1 z2 z3 z4 z5 z6 z7
        go_wp2_with fail
        refine (PR.out _).mono ?_
        rintro e3 w3 ⟨rfl, b3⟩
        go_wp2_with fail
        refine (awake_any _).mono ?_
        rintro e4 w4 ⟨rfl, b4⟩
        go_wp2_with fail
        go_ret
        exact ⟨ret_bool (by simp [*]), by rw [HN.out]; exact hbl.trans ((b3.mono (Nat.le_of_lt hwc)).trans (b4.mono (Nat.le_trans (Nat.le_of_lt hwc) b3.size)))⟩
      · simp only [decide_eq_false he] at HQ
        have hv0 : (v = 1000) = False := eq_false hv
        clear he hv
        have Q := HQ.out
        clear HQ
        go_wp2_with fail
        refine (K2.out _).mono ?_
        rintro e2 w2 ⟨rfl, b2⟩
        obtain ⟨⟨z0, z1, z2, z3, z4, z5, z6, z7⟩, ⟨x0, x1, x2, x3, x4, x5, x6, x7⟩, ⟨y0, y1, y2, y3, y4, y5, y6, y7⟩, hbl, hwc⟩ := LAY.out w2 b2
        simp only [Nat.zero_add] at x0 x1 x2 x3 x4 x5 x6 x7 y0 y1 y2 y3 y4 y5 y6 y7 z0 z1 z2 z3 z4 z5 z6 z7
        go_wp2_with fail
        refine (awake_any _).mono ?_
        rintro e4 w4 ⟨rfl, b4⟩
        go_wp2_with fail
        go_ret
        exact ⟨ret_bool (by simp [*]), by rw [HN.out]; exact hbl.trans (b4.mono (Nat.le_of_lt hwc))⟩
      · simp only [decide_eq_true he] at HQ
        have hv0 : (v = 1000) = False := eq_false hv
        clear he hv
        have Q := HQ.out
        clear HQ
        go_wp2_with fail
        refine (K2.out _).mono ?_
        rintro e2 w2 ⟨rfl, b2⟩
        obtain ⟨⟨z0, z1, z2, z3, z4, z5, z6, z7⟩, ⟨x0, x1, x2, x3, x4, x5, x6, x7⟩, ⟨y0, y1, y2, y3, y4, y5, y6, y7⟩, hbl, hwc⟩ := LAY.out w2 b2
        simp only [Nat.zero_add] at x0 x1 x2 x3 x4 x5 x6 x7 y0 y1 y2 y3 y4 y5 y6 y7 z0 z1 z2 z3 z4 z5 z6 z7
        go_wp2_with fail
        refine (PR.out _).mono ?_
        rintro e3 w3 ⟨rfl, b3⟩
        go_wp2_with fail
        refine (awake_any _).mono ?_
        rintro e4 w4 ⟨rfl, b4⟩
        go_wp2_with fail
        go_ret
        exact ⟨ret_bool (by simp [*]), by rw [HN.out]; exact hbl.trans ((b3.mono (Nat.le_of_lt hwc)).trans (b4.mono (Nat.le_trans (Nat.le_of_lt hwc) b3.size)))⟩
end Go.Proofs.Ytoemhphgnpedmaa
