/-
  The walks of layer 44: the reference's comparisons, of equal things. By an AI agent.
-/
import Derived.Test.YtfjkelngdljikaaSz
import Derived.Test.YtfjkelngdljikaaRk
namespace Go.Proofs.Ytfjkelngdljikaa
set_option linter.unusedVariables false
set_option linter.unusedSimpArgs false
open Go.RowKit Go.Deep

theorem below_drewN_ (w : World) (n : Nat) : Below w.heap.size w (w.drewN n) := ⟨rfl, rfl, rfl, Nat.le_refl _, fun _ _ => rfl⟩
set_option maxRecDepth 100000 in
set_option maxHeartbeats 1500000 in
theorem samechg_any (x y : R.Cs) (Ax Ay : Option Addr) (cx cy B : Nat) (w : World) (sx : x.sl = .slice Ax x.c.gl.length cx) (sy : y.sl = .slice Ay y.c.gl.length cy) (rx : Reads w B 3 Ax x.c.gl.length (R.gcs x.c.gl)) (ry : Reads w B 3 Ay y.c.gl.length (R.gcs y.c.gl)) (hB : B ≤ w.heap.size) (he : x.c = y.c) (hl : x.c.gl.length ≤ maxLen) :
    Calls Try.prog 48 #[.agg x.cells.toArray, .agg y.cells.toArray] w fun e w' => e = .returned (.bool true) ∧ Below w.heap.size w w' := by
  obtain ⟨⟨p0, p1, p2, p3, p4, g⟩, slx⟩ := x
  obtain ⟨c2, sly⟩ := y
  simp only at sx sy rx ry he hl
  subst he
  simp only at sy ry
  subst sx sy
  simp only [R.Cs.cells]
  unfold maxLen at hl
  have B0 := Lib.hid ((below_box w (.cells #[.int .i64 p0, .int .i64 p1, .int .i64 p2, .int .i64 p3, .int .i64 p4, .slice Ax g.length cx] 61)).alloc (by simp) (.cells #[.int .i64 p0, .int .i64 p1, .int .i64 p2, .int .i64 p3, .int .i64 p4, .slice Ay g.length cy] 61))
  have V0 : Hid (((w.alloc (.cells #[.int .i64 p0, .int .i64 p1, .int .i64 p2, .int .i64 p3, .int .i64 p4, .slice Ax g.length cx] 61)).alloc (.cells #[.int .i64 p0, .int .i64 p1, .int .i64 p2, .int .i64 p3, .int .i64 p4, .slice Ay g.length cy] 61)).heap[w.heap.size]? = some (.cells #[.int .i64 p0, .int .i64 p1, .int .i64 p2, .int .i64 p3, .int .i64 p4, .slice Ax g.length cx] 61 (0, 0))) := Lib.hid (heap_old2 _ _ (heap_alloc_new w _))
  have V1' := heap_alloc_new (w.alloc (.cells #[.int .i64 p0, .int .i64 p1, .int .i64 p2, .int .i64 p3, .int .i64 p4, .slice Ax g.length cx] 61)) (.cells #[.int .i64 p0, .int .i64 p1, .int .i64 p2, .int .i64 p3, .int .i64 p4, .slice Ay g.length cy] 61)
  rw [World.size_alloc] at V1'
  have V1 := Lib.hid V1'
  have RX := Lib.hid (rx.below B0.out hB)
  have RY := Lib.hid (ry.below B0.out hB)
  clear rx ry V1'
  go_enter Try.func48, Try.ntmps48
  go_wp2_with fail
  obtain ⟨W2, hW2⟩ : ∃ W, (w.alloc (.cells #[.int .i64 p0, .int .i64 p1, .int .i64 p2, .int .i64 p3, .int .i64 p4, .slice Ax g.length cx] 61)).alloc (.cells #[.int .i64 p0, .int .i64 p1, .int .i64 p2, .int .i64 p3, .int .i64 p4, .slice Ay g.length cy] 61) = W := ⟨_, rfl⟩
  rw [hW2] at B0 V0 V1 RX RY ⊢
  clear hW2
  have x5 := cell_of_block_ (i := 5) V0.out
  have y5 := cell_of_block_ (i := 5) V1.out
  simp at x5 y5
  go_loopw [5] (fun i wr => ∃ k : Nat, k ≤ g.length ∧ i = .int .i64 k ∧ ∃ n, wr = W2.drewN n) (fun i _ => g.length - (intOf i).toNat)
  case atStart => exact ⟨0, Nat.zero_le _, rfl, 0, rfl⟩
  case round =>
    obtain ⟨k, hk, rfl, n, rfl⟩ := hrel
    by_cases hlt : k < g.length
    · obtain ⟨b1, o1, rfl, _, h1⟩ := RX.out.gl (by omega)
      obtain ⟨b2, o2, rfl, _, h2⟩ := RY.out.gl (by omega)
      obtain ⟨z0, za, zb⟩ := h1 k hlt
      obtain ⟨u0, ua, ub⟩ := h2 k hlt
      have q1 : (0 : Int) ≤ (k : Int) := by omega
      have q2 : (k : Int) < (g.length : Int) := by omega
      have EQ := R.ne_no g[k]
      clear h1 h2
      generalize g[k] = y at *
      go_wp2_with fail
      go_quiet (fail)
      go_wp2
      go_roundw
      case rel => exact ⟨k + 1, hlt, by go_num, n + nq, rfl⟩
      case measure => simp [intOf] <;> omega
    · obtain rfl : k = g.length := by omega
      go_wp2
      go_ret
      exact ⟨rfl, below_drewN B0.out n⟩
theorem Q.word_at {W : World} {B : Nat} {A : Option Addr} {ws : List ByteArray} (h : Reads W B 1 A ws.length (ws.map Value.string)) (hn : 0 < ws.length) : ∃ b off, A = some ⟨b, off, none⟩ ∧ b < B ∧ ∀ k (hk : k < ws.length), W.cell? ⟨b, off + k, none⟩ = some (.string ws[k]) := by
  obtain ⟨b, off, e, hb, hc⟩ := h.flat hn (by decide)
  exact ⟨b, off, e, hb, fun k hk => hc k _ (by simp [hk])⟩
set_option maxRecDepth 100000 in
set_option maxHeartbeats 3000000 in
theorem sameut_any (m n : Q.Um) (B : Nat) (w : World) (hm : Q.UIn w B m) (hn : Q.UIn w B n) (hB : B ≤ w.heap.size) (he : m.u = n.u) (hw : m.u.words.length ≤ maxLen) (hc : m.u.chs.length ≤ maxLen) (hg : ∀ c ∈ m.u.chs, c.gl.length ≤ maxLen) :
    Calls Try.prog 29 #[.agg m.cells.toArray, .agg n.cells.toArray] w fun e w' => e = .returned (.bool true) ∧ Below w.heap.size w w' := by
  obtain ⟨⟨ws, cs, cl, af, up⟩, aw, cw, ac, cc⟩ := m
  obtain ⟨u2, aw2, cw2, ac2, cc2⟩ := n
  simp only at he hw hc hg
  subst he
  obtain ⟨w1, ⟨xs, ex, cx⟩, _, _⟩ := hm
  obtain ⟨w2, ⟨ys, ey, cy⟩, _, _⟩ := hn
  simp only at w1 w2 ex ey cx cy
  have hxl : xs.length = cs.length := by rw [← ex, List.length_map]
  have hyl : ys.length = cs.length := by rw [← ey, List.length_map]
  have EX : Hid (∀ k (h : k < xs.length) (h2 : k < ys.length), xs[k].c = ys[k].c ∧ xs[k].c.gl.length ≤ maxLen) := Lib.hid (fun k h h2 => by
    have e1 : xs[k].c = cs[k]'(by omega) := by have := congrArg (fun l => l[k]?) ex; simpa [h, hxl ▸ h] using this
    have e2 : ys[k].c = cs[k]'(by omega) := by have := congrArg (fun l => l[k]?) ey; simpa [h2, hyl ▸ h2] using this
    exact ⟨by rw [e1, e2], by rw [e1]; exact hg _ (List.getElem_mem _)⟩)
  simp only [Q.Um.cells]
  unfold maxLen at hw hc
  have B0 := Lib.hid ((below_box w (.cells #[.slice aw ws.length cw, .slice ac cs.length cc, .int .i64 cl, .int .i64 af, .int .i64 up] 25)).alloc (by simp) (.cells #[.slice aw2 ws.length cw2, .slice ac2 cs.length cc2, .int .i64 cl, .int .i64 af, .int .i64 up] 25))
  have V0 : Hid (((w.alloc (.cells #[.slice aw ws.length cw, .slice ac cs.length cc, .int .i64 cl, .int .i64 af, .int .i64 up] 25)).alloc (.cells #[.slice aw2 ws.length cw2, .slice ac2 cs.length cc2, .int .i64 cl, .int .i64 af, .int .i64 up] 25)).heap[w.heap.size]? = some (.cells #[.slice aw ws.length cw, .slice ac cs.length cc, .int .i64 cl, .int .i64 af, .int .i64 up] 25 (0, 0))) := Lib.hid (heap_old2 _ _ (heap_alloc_new w _))
  have V1' := heap_alloc_new (w.alloc (.cells #[.slice aw ws.length cw, .slice ac cs.length cc, .int .i64 cl, .int .i64 af, .int .i64 up] 25)) (.cells #[.slice aw2 ws.length cw2, .slice ac2 cs.length cc2, .int .i64 cl, .int .i64 af, .int .i64 up] 25)
  rw [World.size_alloc] at V1'
  have V1 := Lib.hid V1'
  have W1 := Lib.hid (w1.below B0.out hB)
  have W2' := Lib.hid (w2.below B0.out hB)
  have CX := Lib.hid (cx.below B0.out hB)
  have CY := Lib.hid (cy.below B0.out hB)
  have HXL := Lib.hid hxl
  have HYL := Lib.hid hyl
  clear w1 w2 cx cy V1' hxl hyl ex ey hg
  go_enter Try.func29, Try.ntmps29
  go_wp2_with fail
  have hs2 : w.heap.size + 1 < ((w.alloc (.cells #[.slice aw ws.length cw, .slice ac cs.length cc, .int .i64 cl, .int .i64 af, .int .i64 up] 25)).alloc (.cells #[.slice aw2 ws.length cw2, .slice ac2 cs.length cc2, .int .i64 cl, .int .i64 af, .int .i64 up] 25)).heap.size := by simp
  obtain ⟨W2, hW2⟩ : ∃ W, (w.alloc (.cells #[.slice aw ws.length cw, .slice ac cs.length cc, .int .i64 cl, .int .i64 af, .int .i64 up] 25)).alloc (.cells #[.slice aw2 ws.length cw2, .slice ac2 cs.length cc2, .int .i64 cl, .int .i64 af, .int .i64 up] 25) = W := ⟨_, rfl⟩
  rw [hW2] at B0 V0 V1 W1 W2' CX CY hs2 ⊢
  clear hW2
  have x0 := cell_of_block_ (i := 0) V0.out
  have x1 := cell_of_block_ (i := 1) V0.out
  have y0 := cell_of_block_ (i := 0) V1.out
  have y1 := cell_of_block_ (i := 1) V1.out
  simp at x0 x1 y0 y1
  go_loopw [5] (fun i wr => ∃ k : Nat, k ≤ ws.length ∧ i = .int .i64 k ∧ ∃ n, wr = W2.drewN n) (fun i _ => ws.length - (intOf i).toNat)
  case atStart => exact ⟨0, Nat.zero_le _, rfl, 0, rfl⟩
  case round =>
    obtain ⟨k, hk, rfl, n, rfl⟩ := hrel
    by_cases hlt : k < ws.length
    · obtain ⟨b1, o1, rfl, _, h1⟩ := Q.word_at W1.out (by omega)
      obtain ⟨b2, o2, rfl, _, h2⟩ := Q.word_at W2'.out (by omega)
      have z0 := h1 k hlt
      have u0 := h2 k hlt
      have q1 : (0 : Int) ≤ (k : Int) := by omega
      have q2 : (k : Int) < (ws.length : Int) := by omega
      clear h1 h2
      generalize ws[k] = y at *
      go_wp2_with fail
      go_quiet (fail)
      go_wp2
      go_roundw
      case rel => exact ⟨k + 1, hlt, by go_num, n + nq, rfl⟩
      case measure => simp [intOf] <;> omega
    · obtain rfl : k = ws.length := by omega
      have q3 : decide (ws.length < ws.length) = false := decide_eq_false (by omega)
      go_wp2_with fail
      go_loopw [6] (fun i wr => ∃ k : Nat, k ≤ cs.length ∧ i = .int .i64 k ∧ Hid (Below W2.heap.size W2 wr)) (fun i _ => cs.length - (intOf i).toNat)
      case atStart => exact ⟨0, Nat.zero_le _, rfl, Lib.hid (below_drewN_ W2 n)⟩
      case round =>
        obtain ⟨j, hj, rfl, hbl⟩ := hrel
        have a1 := (hbl.out.cell (p := ⟨w.heap.size, 1, none⟩) (show w.heap.size < W2.heap.size by omega)).trans x1
        have d1 := (hbl.out.cell (p := ⟨w.heap.size + 1, 1, none⟩) hs2).trans y1
        by_cases hjl : j < cs.length
        · obtain ⟨b1, o1, rfl, hb1, h1⟩ := CX.out.at_ (by rw [HXL.out]; omega)
          obtain ⟨b2, o2, rfl, hb2, h2⟩ := CY.out.at_ (by rw [HYL.out]; omega)
          have hjx : j < xs.length := by rw [HXL.out]; exact hjl
          have hjy : j < ys.length := by rw [HYL.out]; exact hjl
          obtain ⟨s0, s1, s2, s3, s4, s5⟩ := h1 j hjx
          obtain ⟨t0, t1, t2, t3, t4, t5⟩ := h2 j hjy
          obtain ⟨Ax, cx, sx, rx, _⟩ := CX.out.gl xs[j] (List.getElem_mem hjx)
          obtain ⟨Ay, cy, sy, ry, _⟩ := CY.out.gl ys[j] (List.getElem_mem hjy)
          obtain ⟨ee, eg⟩ := EX.out j hjx hjy
          have hBW : B ≤ W2.heap.size := Nat.le_trans hB B0.out.size
          have SC := fun (W : World) (h : Below W2.heap.size W2 W) => samechg_any xs[j] ys[j] Ax Ay cx cy B W sx sy (rx.below h hBW) (ry.below h hBW) (Nat.le_trans hBW h.size) ee eg
          have CELL : Hid (∀ W, Below W2.heap.size W2 W → (W.cell? ⟨w.heap.size, 1, none⟩ = some (.slice (some ⟨b1, o1, none⟩) cs.length cc) ∧ W.cell? ⟨w.heap.size + 1, 1, none⟩ = some (.slice (some ⟨b2, o2, none⟩) cs.length cc2) ∧ W.cell? ⟨b1, o1 + j * 6, none⟩ = some (.int .i64 xs[j].c.kind) ∧ W.cell? ⟨b1, o1 + j * 6 + 1, none⟩ = some (.int .i64 xs[j].c.row) ∧ W.cell? ⟨b1, o1 + j * 6 + 2, none⟩ = some (.int .i64 xs[j].c.col) ∧ W.cell? ⟨b1, o1 + j * 6 + 3, none⟩ = some (.int .i64 xs[j].c.count) ∧ W.cell? ⟨b1, o1 + j * 6 + 4, none⟩ = some (.int .i64 xs[j].c.to) ∧ W.cell? ⟨b1, o1 + j * 6 + 5, none⟩ = some xs[j].sl ∧ W.cell? ⟨b2, o2 + j * 6, none⟩ = some (.int .i64 ys[j].c.kind) ∧ W.cell? ⟨b2, o2 + j * 6 + 1, none⟩ = some (.int .i64 ys[j].c.row) ∧ W.cell? ⟨b2, o2 + j * 6 + 2, none⟩ = some (.int .i64 ys[j].c.col) ∧ W.cell? ⟨b2, o2 + j * 6 + 3, none⟩ = some (.int .i64 ys[j].c.count) ∧ W.cell? ⟨b2, o2 + j * 6 + 4, none⟩ = some (.int .i64 ys[j].c.to) ∧ W.cell? ⟨b2, o2 + j * 6 + 5, none⟩ = some ys[j].sl)) := Lib.hid (fun W h => ⟨(h.cell (p := ⟨w.heap.size, _, none⟩) (show w.heap.size < W2.heap.size by omega)).trans x1, (h.cell (p := ⟨w.heap.size + 1, _, none⟩) hs2).trans y1, (h.cell (p := ⟨b1, _, none⟩) (Nat.lt_of_lt_of_le hb1 hBW)).trans s0, (h.cell (p := ⟨b1, _, none⟩) (Nat.lt_of_lt_of_le hb1 hBW)).trans s1, (h.cell (p := ⟨b1, _, none⟩) (Nat.lt_of_lt_of_le hb1 hBW)).trans s2, (h.cell (p := ⟨b1, _, none⟩) (Nat.lt_of_lt_of_le hb1 hBW)).trans s3, (h.cell (p := ⟨b1, _, none⟩) (Nat.lt_of_lt_of_le hb1 hBW)).trans s4, (h.cell (p := ⟨b1, _, none⟩) (Nat.lt_of_lt_of_le hb1 hBW)).trans s5, (h.cell (p := ⟨b2, _, none⟩) (Nat.lt_of_lt_of_le hb2 hBW)).trans t0, (h.cell (p := ⟨b2, _, none⟩) (Nat.lt_of_lt_of_le hb2 hBW)).trans t1, (h.cell (p := ⟨b2, _, none⟩) (Nat.lt_of_lt_of_le hb2 hBW)).trans t2, (h.cell (p := ⟨b2, _, none⟩) (Nat.lt_of_lt_of_le hb2 hBW)).trans t3, (h.cell (p := ⟨b2, _, none⟩) (Nat.lt_of_lt_of_le hb2 hBW)).trans t4, (h.cell (p := ⟨b2, _, none⟩) (Nat.lt_of_lt_of_le hb2 hBW)).trans t5⟩)
          simp only [R.Cs.cells] at SC
          replace SC := Lib.hid SC
          have q1 : (0 : Int) ≤ (j : Int) := by omega
          have q2 : (j : Int) < (cs.length : Int) := by omega
          clear h1 h2 s0 s1 s2 s3 s4 s5 t0 t1 t2 t3 t4 t5 sx sy rx ry ee eg a1 d1
          generalize xs[j].c.kind = f0 at *
          generalize xs[j].c.row = f1 at *
          generalize xs[j].c.col = f2 at *
          generalize xs[j].c.count = f3 at *
          generalize xs[j].c.to = f4 at *
          generalize xs[j].sl = f5 at *
          generalize ys[j].c.kind = g0 at *
          generalize ys[j].c.row = g1 at *
          generalize ys[j].c.col = g2 at *
          generalize ys[j].c.count = g3 at *
          generalize ys[j].c.to = g4 at *
          generalize ys[j].sl = g5 at *
          have a1 := (hbl.out.cell (p := ⟨w.heap.size, 1, none⟩) (show w.heap.size < W2.heap.size by omega)).trans x1
          have d1 := (hbl.out.cell (p := ⟨w.heap.size + 1, 1, none⟩) hs2).trans y1
          go_wp2_with fail
          refine wp_region_held_drew (S := fun w' => (w'.cell? ⟨w.heap.size, 1, none⟩ = some (.slice (some ⟨b1, o1, none⟩) cs.length cc) ∧ w'.cell? ⟨w.heap.size + 1, 1, none⟩ = some (.slice (some ⟨b2, o2, none⟩) cs.length cc2) ∧ w'.cell? ⟨b1, o1 + j * 6, none⟩ = some (.int .i64 f0) ∧ w'.cell? ⟨b1, o1 + j * 6 + 1, none⟩ = some (.int .i64 f1) ∧ w'.cell? ⟨b1, o1 + j * 6 + 2, none⟩ = some (.int .i64 f2) ∧ w'.cell? ⟨b1, o1 + j * 6 + 3, none⟩ = some (.int .i64 f3) ∧ w'.cell? ⟨b1, o1 + j * 6 + 4, none⟩ = some (.int .i64 f4) ∧ w'.cell? ⟨b1, o1 + j * 6 + 5, none⟩ = some f5 ∧ w'.cell? ⟨b2, o2 + j * 6, none⟩ = some (.int .i64 g0) ∧ w'.cell? ⟨b2, o2 + j * 6 + 1, none⟩ = some (.int .i64 g1) ∧ w'.cell? ⟨b2, o2 + j * 6 + 2, none⟩ = some (.int .i64 g2) ∧ w'.cell? ⟨b2, o2 + j * 6 + 3, none⟩ = some (.int .i64 g3) ∧ w'.cell? ⟨b2, o2 + j * 6 + 4, none⟩ = some (.int .i64 g4) ∧ w'.cell? ⟨b2, o2 + j * 6 + 5, none⟩ = some g5) ∧ Below W2.heap.size W2 w') (by kernel_rfl) ⟨CELL.out _ (hbl.out.drew), hbl.out.drew⟩ (fun hHeld => ?_)
          obtain ⟨wd, hwd⟩ : ∃ W, wr.drew = W := ⟨_, rfl⟩
          rw [hwd] at hHeld ⊢
          clear hwd a1 d1
          refine tk 0 rfl (by kernel_rfl) hHeld (fun _ _ _ h => h) (v := ?_) ?_ ?_
          rotate_left 1
          · (intro w hSw; (try dsimp only at hSw); (try simp only [List.getElem_toArray, List.getElem_cons_succ, List.getElem_cons_zero]); go_simp) <;> (with_reducible rfl)
          try simp only [List.getElem_toArray, List.getElem_cons_succ, List.getElem_cons_zero, Act.put, List.setIfInBounds_toArray, List.set_cons_zero, List.set_cons_succ]
          refine tk 1 rfl (by kernel_rfl) hHeld (fun _ _ _ h => h) (v := ?_) ?_ ?_
          rotate_left 1
          · (intro w hSw; (try dsimp only at hSw); (try simp only [List.getElem_toArray, List.getElem_cons_succ, List.getElem_cons_zero]); go_simp) <;> (with_reducible rfl)
          try simp only [List.getElem_toArray, List.getElem_cons_succ, List.getElem_cons_zero, Act.put, List.setIfInBounds_toArray, List.set_cons_zero, List.set_cons_succ]
          refine tk 2 rfl (by kernel_rfl) hHeld (fun _ _ _ h => h) (v := ?_) ?_ ?_
          rotate_left 1
          · (intro w hSw; (try dsimp only at hSw); (try simp only [List.getElem_toArray, List.getElem_cons_succ, List.getElem_cons_zero]); go_simp) <;> (with_reducible rfl)
          try simp only [List.getElem_toArray, List.getElem_cons_succ, List.getElem_cons_zero, Act.put, List.setIfInBounds_toArray, List.set_cons_zero, List.set_cons_succ]
          refine tk 3 rfl (by kernel_rfl) hHeld (fun _ _ _ h => h) (v := ?_) ?_ ?_
          rotate_left 1
          · (intro w hSw; (try dsimp only at hSw); (try simp only [List.getElem_toArray, List.getElem_cons_succ, List.getElem_cons_zero]); go_simp) <;> (with_reducible rfl)
          try simp only [List.getElem_toArray, List.getElem_cons_succ, List.getElem_cons_zero, Act.put, List.setIfInBounds_toArray, List.set_cons_zero, List.set_cons_succ]
          refine tk 4 rfl (by kernel_rfl) hHeld (fun _ _ _ h => h) (v := ?_) ?_ ?_
          rotate_left 1
          · (intro w hSw; (try dsimp only at hSw); (try simp only [List.getElem_toArray, List.getElem_cons_succ, List.getElem_cons_zero]); go_simp) <;> (with_reducible rfl)
          try simp only [List.getElem_toArray, List.getElem_cons_succ, List.getElem_cons_zero, Act.put, List.setIfInBounds_toArray, List.set_cons_zero, List.set_cons_succ]
          refine tk 5 rfl (by kernel_rfl) hHeld (fun _ _ _ h => h) (v := ?_) ?_ ?_
          rotate_left 1
          · (intro w hSw; (try dsimp only at hSw); (try simp only [List.getElem_toArray, List.getElem_cons_succ, List.getElem_cons_zero]); go_simp) <;> (with_reducible rfl)
          try simp only [List.getElem_toArray, List.getElem_cons_succ, List.getElem_cons_zero, Act.put, List.setIfInBounds_toArray, List.set_cons_zero, List.set_cons_succ]
          refine tk 6 rfl (by kernel_rfl) hHeld (fun _ _ _ h => h) (v := ?_) ?_ ?_
          rotate_left 1
          · (intro w hSw; (try dsimp only at hSw); (try simp only [List.getElem_toArray, List.getElem_cons_succ, List.getElem_cons_zero]); go_simp) <;> (with_reducible rfl)
          try simp only [List.getElem_toArray, List.getElem_cons_succ, List.getElem_cons_zero, Act.put, List.setIfInBounds_toArray, List.set_cons_zero, List.set_cons_succ]
          refine tk 7 rfl (by kernel_rfl) hHeld (fun _ _ _ h => h) (v := ?_) ?_ ?_
          rotate_left 1
          · (intro w hSw; (try dsimp only at hSw); (try simp only [List.getElem_toArray, List.getElem_cons_succ, List.getElem_cons_zero]); go_simp) <;> (with_reducible rfl)
          try simp only [List.getElem_toArray, List.getElem_cons_succ, List.getElem_cons_zero, Act.put, List.setIfInBounds_toArray, List.set_cons_zero, List.set_cons_succ]
          refine tk 8 rfl (by kernel_rfl) hHeld (fun _ _ _ h => h) (v := ?_) ?_ ?_
          rotate_left 1
          · (intro w hSw; (try dsimp only at hSw); (try simp only [List.getElem_toArray, List.getElem_cons_succ, List.getElem_cons_zero]); go_simp) <;> (with_reducible rfl)
          try simp only [List.getElem_toArray, List.getElem_cons_succ, List.getElem_cons_zero, Act.put, List.setIfInBounds_toArray, List.set_cons_zero, List.set_cons_succ]
          refine tk 9 rfl (by kernel_rfl) hHeld (fun _ _ _ h => h) (v := ?_) ?_ ?_
          rotate_left 1
          · (intro w hSw; (try dsimp only at hSw); (try simp only [List.getElem_toArray, List.getElem_cons_succ, List.getElem_cons_zero]); go_simp) <;> (with_reducible rfl)
          try simp only [List.getElem_toArray, List.getElem_cons_succ, List.getElem_cons_zero, Act.put, List.setIfInBounds_toArray, List.set_cons_zero, List.set_cons_succ]
          refine wpAnyH_ready (rs := [10]) (by kernel_rfl) (by simp) (AllReadyH.cons rfl (fun K hK => ?_) AllReadyH.nil)
          simp only [List.getElem_toArray, List.getElem_cons_succ, List.getElem_cons_zero]
          go_simp
          go_at_call 48
          refine (SC.out _ hHeld.2).mono ?_
          rintro e w' ⟨rfl, b9⟩
          try go_wp2_with fail
          have b10 := hHeld.2.trans (b9.mono hHeld.2.size)
          refine hK.out _ _ ⟨CELL.out _ b10, b10⟩ (fun hHeld => ?_)
          clear hK K
          try simp only [List.getElem_toArray, List.getElem_cons_succ, List.getElem_cons_zero, Act.put, List.setIfInBounds_toArray, List.set_cons_zero, List.set_cons_succ]
          refine tk 11 rfl (by kernel_rfl) hHeld (fun _ _ _ h => h) (v := ?_) ?_ ?_
          rotate_left 1
          · (intro w hSw; (try dsimp only at hSw); (try simp only [List.getElem_toArray, List.getElem_cons_succ, List.getElem_cons_zero]); go_simp) <;> (with_reducible rfl)
          try simp only [List.getElem_toArray, List.getElem_cons_succ, List.getElem_cons_zero, Act.put, List.setIfInBounds_toArray, List.set_cons_zero, List.set_cons_succ]
          refine wpAnyH_done (by kernel_rfl) ?_ _
          go_wp2_with fail
          exact ⟨⟨j + 1, hjl, by go_num, Lib.hid hHeld.2⟩, by simp [intOf]; omega⟩
        · obtain rfl : j = cs.length := by omega
          have q4 : decide (cs.length < cs.length) = false := decide_eq_false (by omega)
          go_wp2_with fail
          go_ret
          exact ⟨rfl, B0.out.trans (hbl.out.mono B0.out.size)⟩
end Go.Proofs.Ytfjkelngdljikaa
