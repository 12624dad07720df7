/-
  The walks of layer 30: the reference's Likeness. By an AI agent.
-/
import Derived.Test.YtoemhphgnpedmaaLk2
import Derived.Lib.MinMax
namespace Go.Proofs.Ytoemhphgnpedmaa
open Go.RowKit
set_option maxRecDepth 100000 in
set_option maxHeartbeats 16000000 in
theorem reflike_no (a b : I.Rg) (w : World) (h : ¬ (I.proper a = true ∧ I.proper b = true ∧ a.kind = b.kind)) : Calls Try.prog 15 #[a.val, b.val] w fun e w' => e = .returned (.int .i64 (I.like a b)) ∧ Below w.heap.size w w' := by
  have HL : Hid (I.like a b = 0) := Lib.hid (by unfold I.like; rw [if_neg h])
  have PA := Lib.hid (refproper_any a)
  have PB := Lib.hid (refproper_any b)
  have B0 := Lib.hid (((Below.refl w.heap.size w).alloc (Nat.le_refl _) (.cells a.cells.toArray 27)).alloc (by simp) (.cells b.cells.toArray 27))
  rw [HL.out]
  cases ha : I.proper a
  · rw [ha] at PA
    obtain ⟨ak, ai, ap, at_, al, ab, ar, alb⟩ := a
    obtain ⟨bk, bi, bp, bt, bl, bb, br, blb⟩ := b
    simp only [I.Rg.val, I.Rg.cells] at PA PB B0 ⊢
    clear h HL ha
    go_enter Try.func15, Try.ntmps15
    go_wp2_with fail
    refine (PA.out _).mono ?_
    rintro e' w1 ⟨rfl, b1⟩
    go_wp2_with fail
    go_ret
    exact ⟨rfl, B0.out.trans (b1.mono B0.out.size)⟩
  · cases hb : I.proper b
    · rw [ha] at PA
      rw [hb] at PB
      obtain ⟨ak, ai, ap, at_, al, ab, ar, alb⟩ := a
      obtain ⟨bk, bi, bp, bt, bl, bb, br, blb⟩ := b
      simp only [I.Rg.val, I.Rg.cells] at PA PB B0 ⊢
      clear h HL ha hb
      go_enter Try.func15, Try.ntmps15
      go_wp2_with fail
      refine (PA.out _).mono ?_
      rintro e' w1 ⟨rfl, b1⟩
      have hc := I.two_cells b1
      obtain ⟨h1, h2⟩ := hc
      have xb0 := h2 0 _ rfl
      have xb1 := h2 1 _ rfl
      have xb2 := h2 2 _ rfl
      have xb3 := h2 3 _ rfl
      have xb4 := h2 4 _ rfl
      have xb5 := h2 5 _ rfl
      have xb6 := h2 6 _ rfl
      have xb7 := h2 7 _ rfl
      clear h1 h2
      have B1 := Lib.hid (B0.out.trans (b1.mono B0.out.size))
      clear b1 B0 PA
      go_wp2_with fail
      refine (PB.out _).mono ?_
      rintro e' w2 ⟨rfl, b2⟩
      go_wp2_with fail
      go_ret
      exact ⟨rfl, B1.out.trans (b2.mono B1.out.size)⟩
    · have hk : a.kind ≠ b.kind := fun e => h ⟨ha, hb, e⟩
      rw [ha] at PA
      rw [hb] at PB
      obtain ⟨ak, ai, ap, at_, al, ab, ar, alb⟩ := a
      obtain ⟨bk, bi, bp, bt, bl, bb, br, blb⟩ := b
      simp only [I.Rg.val, I.Rg.cells] at PA PB B0 hk ⊢
      clear h HL ha hb
      have hk1 : (ak != bk) = true := bne_iff_ne.2 hk
      go_enter Try.func15, Try.ntmps15
      go_wp2_with fail
      refine (PA.out _).mono ?_
      rintro e' w1 ⟨rfl, b1⟩
      have hc := I.two_cells b1
      obtain ⟨h1, h2⟩ := hc
      have xb0 := h2 0 _ rfl
      have xb1 := h2 1 _ rfl
      have xb2 := h2 2 _ rfl
      have xb3 := h2 3 _ rfl
      have xb4 := h2 4 _ rfl
      have xb5 := h2 5 _ rfl
      have xb6 := h2 6 _ rfl
      have xb7 := h2 7 _ rfl
      have xa0 := h1 0 _ rfl
      clear h1 h2
      have B1 := Lib.hid (B0.out.trans (b1.mono B0.out.size))
      have hs : w.heap.size + 1 < w1.heap.size := by have := b1.size; simp at this; omega
      clear b1 B0 PA
      go_wp2_with fail
      refine (PB.out _).mono ?_
      rintro e' w2 ⟨rfl, b2⟩
      have B2 := Lib.hid (B1.out.trans (b2.mono B1.out.size))
      have ya0 := (b2.cell (p := ⟨w.heap.size, 0, none⟩) (show w.heap.size < w1.heap.size by omega)).trans xa0
      have yb0 := (b2.cell (p := ⟨w.heap.size + 1, 0, none⟩) hs).trans xb0
      clear b2 xa0 xb0 xb1 xb2 xb3 xb4 xb5 xb6 xb7 B1
      go_wp2_with fail
      go_ret
      exact ⟨rfl, B2.out⟩
set_option maxRecDepth 100000 in
set_option maxHeartbeats 16000000 in
theorem reflike_yes (a b : I.Rg) (w : World) (ha : I.proper a = true) (hb : I.proper b = true) (hk : a.kind = b.kind) : Calls Try.prog 15 #[a.val, b.val] w fun e w' => e = .returned (.int .i64 (I.like a b)) ∧ Below w.heap.size w w' := by
  have PA := Lib.hid (refproper_any a)
  have PB := Lib.hid (refproper_any b)
  have B0 := Lib.hid (((Below.refl w.heap.size w).alloc (Nat.le_refl _) (.cells a.cells.toArray 27)).alloc (by simp) (.cells b.cells.toArray 27))
  rw [ha] at PA
  rw [hb] at PB
  have PP := Lib.hid (I.parts ha hb)
  have pa := (I.proper_iff a).1 ha
  have pb := (I.proper_iff b).1 hb
  obtain ⟨bo, hbo⟩ : ∃ bo, I.both a b = bo := ⟨_, rfl⟩
  obtain ⟨al', hal⟩ : ∃ x, I.all a b = x := ⟨_, rfl⟩
  obtain ⟨lk, hlk⟩ : ∃ x, I.like a b = x := ⟨_, rfl⟩
  rw [hlk]
  have HBO := Lib.hid hbo
  have HAL := Lib.hid hal
  have HLK := Lib.hid hlk
  have LK0 : lk = 600 * bo / al' + (bif (a.label.toList == b.label.toList) then 300 else 0) + (bif (decide (a.bottom - a.top = b.bottom - b.top) && (a.right - a.left == b.right - b.left)) then 100 else 0) := by
    rw [← hlk, ← hbo, ← hal]
    unfold I.like
    rw [if_pos ⟨ha, hb, hk⟩]
    have e1 : (a.label.toList == b.label.toList) = decide (a.label = b.label) := by
      rw [Bool.eq_iff_iff, beq_iff_eq, decide_eq_true_iff]
      exact ⟨fun h => I.bytes_ext h, fun h => by rw [h]⟩
    have e2 : (decide (a.bottom - a.top = b.bottom - b.top) && (a.right - a.left == b.right - b.left)) = decide (a.bottom - a.top = b.bottom - b.top ∧ a.right - a.left = b.right - b.left) := by
      rw [Bool.eq_iff_iff, Bool.and_eq_true, decide_eq_true_iff, decide_eq_true_iff, beq_iff_eq]
    rw [e1, e2]
    congr 1
    · congr 1
      by_cases h : a.label = b.label <;> simp [h]
    · by_cases h : a.bottom - a.top = b.bottom - b.top ∧ a.right - a.left = b.right - b.left <;> simp [h]
  obtain ⟨ak, ai, ap, at_, al, ab, ar, alb⟩ := a
  obtain ⟨bk, bi, bp, bt, bl, bb, br, blb⟩ := b
  simp only [I.Rg.val, I.Rg.cells] at PA PB B0 pa pb hk LK0 ⊢
  subst hk
  have hk1 : (ak != ak) = false := by simp
  clear ha hb hbo hal hlk
  go_enter Try.func15, Try.ntmps15
  go_wp2_with fail
  refine (PA.out _).mono ?_
  rintro e' w1 ⟨rfl, b1⟩
  have hc := I.two_cells b1
  obtain ⟨h1, h2⟩ := hc
  have xb0 := h2 0 _ rfl
  have xb1 := h2 1 _ rfl
  have xb2 := h2 2 _ rfl
  have xb3 := h2 3 _ rfl
  have xb4 := h2 4 _ rfl
  have xb5 := h2 5 _ rfl
  have xb6 := h2 6 _ rfl
  have xb7 := h2 7 _ rfl
  have xa0 := h1 0 _ rfl
  have xa1 := h1 1 _ rfl
  have xa2 := h1 2 _ rfl
  have xa3 := h1 3 _ rfl
  have xa4 := h1 4 _ rfl
  have xa5 := h1 5 _ rfl
  have xa6 := h1 6 _ rfl
  have xa7 := h1 7 _ rfl
  clear h1 h2
  have B1 := Lib.hid (B0.out.trans (b1.mono B0.out.size))
  have hs : w.heap.size + 1 < w1.heap.size := by have := b1.size; simp at this; omega
  clear b1 B0 PA
  go_wp2_with fail
  refine (PB.out _).mono ?_
  rintro e' w2 ⟨rfl, b2⟩
  have B2 := Lib.hid (B1.out.trans (b2.mono B1.out.size))
  have ya0 := (b2.cell (p := ⟨w.heap.size, 0, none⟩) (show w.heap.size < w1.heap.size by omega)).trans xa0
  have ya1 := (b2.cell (p := ⟨w.heap.size, 1, none⟩) (show w.heap.size < w1.heap.size by omega)).trans xa1
  have ya2 := (b2.cell (p := ⟨w.heap.size, 2, none⟩) (show w.heap.size < w1.heap.size by omega)).trans xa2
  have ya3 := (b2.cell (p := ⟨w.heap.size, 3, none⟩) (show w.heap.size < w1.heap.size by omega)).trans xa3
  have ya4 := (b2.cell (p := ⟨w.heap.size, 4, none⟩) (show w.heap.size < w1.heap.size by omega)).trans xa4
  have ya5 := (b2.cell (p := ⟨w.heap.size, 5, none⟩) (show w.heap.size < w1.heap.size by omega)).trans xa5
  have ya6 := (b2.cell (p := ⟨w.heap.size, 6, none⟩) (show w.heap.size < w1.heap.size by omega)).trans xa6
  have ya7 := (b2.cell (p := ⟨w.heap.size, 7, none⟩) (show w.heap.size < w1.heap.size by omega)).trans xa7
  have yb0 := (b2.cell (p := ⟨w.heap.size + 1, 0, none⟩) hs).trans xb0
  have yb1 := (b2.cell (p := ⟨w.heap.size + 1, 1, none⟩) hs).trans xb1
  have yb2 := (b2.cell (p := ⟨w.heap.size + 1, 2, none⟩) hs).trans xb2
  have yb3 := (b2.cell (p := ⟨w.heap.size + 1, 3, none⟩) hs).trans xb3
  have yb4 := (b2.cell (p := ⟨w.heap.size + 1, 4, none⟩) hs).trans xb4
  have yb5 := (b2.cell (p := ⟨w.heap.size + 1, 5, none⟩) hs).trans xb5
  have yb6 := (b2.cell (p := ⟨w.heap.size + 1, 6, none⟩) hs).trans xb6
  have yb7 := (b2.cell (p := ⟨w.heap.size + 1, 7, none⟩) hs).trans xb7
  clear b2 xa0 xa1 xa2 xa3 xa4 xa5 xa6 xa7 xb0 xb1 xb2 xb3 xb4 xb5 xb6 xb7 B1
  have e0 : I.area (min ab bb - max at_ bt) (min ar br - max al bl) = bo := HBO.out
  have e1 : I.area (ab - at_) (ar - al) + I.area (bb - bt) (br - bl) - bo = al' := by rw [← HBO.out]; exact HAL.out
  have E0 := Lib.hid e0
  have A1 : Hid (∀ q, Calls Try.prog 25 #[.int .i64 at_, .int .i64 al, .int .i64 ab, .int .i64 ar] (w2.drewN q) fun e w' => e = .returned (.int .i64 (I.area (ab - at_) (ar - al))) ∧ ∃ n, w' = w2.drewN n) := Lib.hid (fun q => (refarea_any _ _ _ _ _ ⟨by omega, by omega⟩ ⟨by omega, by omega⟩ ⟨by omega, by omega⟩ ⟨by omega, by omega⟩).mono (fun e w' h => ⟨h.1, q, h.2.symm⟩))
  have A2 : Hid (∀ q, Calls Try.prog 25 #[.int .i64 bt, .int .i64 bl, .int .i64 bb, .int .i64 br] (w2.drewN q) fun e w' => e = .returned (.int .i64 (I.area (bb - bt) (br - bl))) ∧ ∃ n, w' = w2.drewN n) := Lib.hid (fun q => (refarea_any _ _ _ _ _ ⟨by omega, by omega⟩ ⟨by omega, by omega⟩ ⟨by omega, by omega⟩ ⟨by omega, by omega⟩).mono (fun e w' h => ⟨h.1, q, h.2.symm⟩))
  have pp := PP.out
  try simp only [] at pp
  rw [HBO.out, HAL.out] at pp
  obtain ⟨x1, hx1⟩ : ∃ x, I.area (ab - at_) (ar - al) = x := ⟨_, rfl⟩
  obtain ⟨x2, hx2⟩ : ∃ x, I.area (bb - bt) (br - bl) = x := ⟨_, rfl⟩
  rw [hx1] at A1 e1 pp
  rw [hx2] at A2 e1 pp
  clear e0 PP PB hx1 hx2
  obtain ⟨q, hq⟩ : ∃ q, 600 * bo / al' = q := ⟨_, rfl⟩
  have hq0 : 0 ≤ q ∧ q ≤ 600 := by
    rw [← hq]
    refine ⟨Int.ediv_nonneg (by omega) (by omega), ?_⟩
    rw [Int.ediv_le_iff_le_mul (by omega)]
    omega
  have hq1 : (600 * bo).tdiv al' = q := by rw [Int.tdiv_eq_ediv_of_nonneg (by omega)]; exact hq
  have hz : (al' == 0) = false := beq_eq_false_iff_ne.2 (by omega)
  have u1 : IntKind.i64.wrap (x1 + x2 - bo) = al' := by rw [e1]; simp [IntKind.wrap, IntKind.bits, IntKind.signed]; omega
  have u2 : IntKind.i64.wrap (x1 + x2) = x1 + x2 := by simp [IntKind.wrap, IntKind.bits, IntKind.signed]; omega
  have u3 : IntKind.i64.wrap (600 * bo) = 600 * bo := by simp [IntKind.wrap, IntKind.bits, IntKind.signed]; omega
  rw [hq] at LK0
  have LK := Lib.hid LK0
  clear hq e1 LK0
  go_wp2_with fail
  refine (refarea_any _ _ _ _ _ ⟨by omega, by omega⟩ ⟨by omega, by omega⟩ ⟨by omega, by omega⟩ ⟨by omega, by omega⟩).mono ?_
  rintro e' w9 ⟨he, rfl⟩
  obtain rfl : e' = .returned (.int .i64 bo) := by rw [he, ← E0.out]
  clear he
  go_wp2_with fail
  go_quiet (first | (go_at_call 25; with_reducible exact A1.out _) | (go_at_call 25; with_reducible exact A2.out _))
  cases hs1 : (alb.toList == blb.toList)
  all_goals by_cases hd1 : ab - at_ = bb - bt
  all_goals cases hc1 : (ar - al == br - bl)
  all_goals
    have l1 := LK.out
    rw [hs1, hc1] at l1
    simp only [hd1, decide_true, decide_false, Bool.and_true, Bool.and_false, Bool.false_and, Bool.true_and, cond_true, cond_false, Bool.false_eq_true] at l1
    have L1 := Lib.hid l1
    clear l1
    go_wp2_with fail
    go_ret
    exact ⟨ret_int (by have := L1.out; omega), below_drewN B2.out _⟩
theorem reflike_any (a b : I.Rg) (w : World) : Calls Try.prog 15 #[a.val, b.val] w fun e w' => e = .returned (.int .i64 (I.like a b)) ∧ Below w.heap.size w w' := by
  by_cases h : I.proper a = true ∧ I.proper b = true ∧ a.kind = b.kind
  · exact reflike_yes a b w h.1 h.2.1 h.2.2
  · exact reflike_no a b w h
end Go.Proofs.Ytoemhphgnpedmaa
