/-
  The law Check of layer 44. By an AI agent.
-/
import Derived.Test.YtfjkelngdljikaaAw
import Derived.Test.YtfjkelngdljikaaIr
import Derived.Test.YtfjkelngdljikaaOpenQ
import Derived.Test.YtfjkelngdljikaaQn
namespace Go.Proofs.Ytfjkelngdljikaa
set_option linter.unusedVariables false
set_option linter.unusedSimpArgs false
open Go.RowKit Go.Joins Go.Deep

/-- New and the reference's New answer the same. -/
theorem new_both (t r : Int) : ∃ nt nr nv : Int, (∀ W, Calls Try.prog 21 #[.int .i64 t, .int .i64 r] W fun e W' => e = .returned (.tuple #[.agg (Q.new nt nr), .int .i64 nv]) ∧ Below W.heap.size W W') ∧
    (∀ W, Calls Try.prog 22 #[.int .i64 t, .int .i64 r] W fun e W' => e = .returned (.tuple #[.agg (Q.new nt nr), .int .i64 nv]) ∧ Below W.heap.size W W') := by
  by_cases h : t < 0 ∨ 1099511627776 < t ∨ r < 25 ∨ 400 < r
  · refine ⟨0, 0, 2, fun W => ?_, fun W => refnew_bad t r W h⟩
    have := new_any t r W
    rw [chk_new_bad h] at this
    exact this
  · refine ⟨t, r, 0, fun W => ?_, fun W => refnew_good t r W h⟩
    have := new_any t r W
    rw [chk_new_good h] at this
    exact this
set_option maxRecDepth 100000 in
set_option maxHeartbeats 4000000 in
theorem checklaw_any (q : Q.Qm) (t r : Int) (w : World) (hq : Q.QGood w q) :
    Calls Try.prog 4 #[.agg q.cells.toArray, .int .i64 t, .int .i64 r] w fun e w' => e = .returned (.bool true) ∧ Below w.heap.size w w' := by
  obtain ⟨nt, nr, nv, N1, N2⟩ := new_both t r
  have b0 := below_box w (.cells q.cells.toArray 28)
  have V0 := heap_alloc_new w (.cells q.cells.toArray 28)
  have GI := great_any q.ai q.ci w.heap.size q.items (w.alloc (.cells q.cells.toArray 28)) (hq.i.items.below b0 (Nat.le_refl _)) hq.len hq.fits
  have GC := great_any (some ⟨(w.alloc (.cells q.cells.toArray 28)).heap.size, 0, none⟩) 1 ((w.alloc (.cells q.cells.toArray 28)).alloc (.cells q.cur.cells.toArray 25)).heap.size [q.cur] ((w.alloc (.cells q.cells.toArray 28)).alloc (.cells q.cur.cells.toArray 25)) ⟨by
      have e : Q.ucs [q.cur] = q.cur.cells := by simp [Q.ucs]
      rw [e]; exact reads_block (w.alloc (.cells q.cells.toArray 28)) q.cur.cells 25 5 1 rfl, fun m hm => by
      simp only [List.mem_singleton] at hm; subst hm
      exact (((hq.i.cur.below b0 (Nat.le_refl _)).more b0.size).below (below_box _ _) (Nat.le_refl _)).more (below_box _ _).size⟩ (by simp [maxLen]) (fun m hm => by
      simp only [List.mem_singleton] at hm; subst hm; exact hq.cur)
  have gv1 := Q.gr_vals (q.items.map (·.u))
  have gv2 := Q.gr_vals [q.cur.u]
  have SM : Hid (Q.gr (q.items.map (·.u)) = 0 → Q.gr [q.cur.u] = 0 → q.a.Sml) := Lib.hid (fun h1 h2 => ⟨by have := (Q.gr_zero h1).1; simpa [Q.Qm.a] using this, (Q.gr_zero h2).2 _ (by simp [Q.Qm.a]), (Q.gr_zero h1).2⟩)
  have HQ0 : Hid (Q.HQ (w.alloc (.cells q.cells.toArray 28)) w.heap.size q) := Lib.hid ⟨V0, (hq.i.below b0 (Nat.le_refl _)).more b0.size⟩
  have QG := Lib.hid hq
  have B0 := Lib.hid b0
  have C1 := (fun (hs : q.a.Sml) (W : World) (h : Q.QIn W W.heap.size q) => show Calls Try.prog 17 #[.agg q.cells.toArray] W fun e w' => e = .returned (.int .i64 (Q.chk q.a)) ∧ Below W.heap.size W w' from check_any q W.heap.size W h.items.row (Nat.le_refl _) (by have := hs.1; simp only [Q.Qm.a, List.length_map] at this; unfold maxLen; omega) (fun m hm => by have := hs.2.2 m.u (List.mem_map.2 ⟨m, hm, rfl⟩); have h1 := this.1; have h2 := this.2.1; unfold maxLen; omega) (by have := hs.2.1.1; simp only [Q.Qm.a] at this; unfold maxLen; omega) (by have := hs.2.1.2.1; simp only [Q.Qm.a] at this; unfold maxLen; omega))
  have C2 := (fun (hs : q.a.Sml) (W : World) (h : Q.QIn W W.heap.size q) => show Calls Try.prog 23 #[.agg q.cells.toArray] W fun e w' => e = .returned (.int .i64 (Q.chk q.a)) ∧ Below W.heap.size W w' from refcheck_any q W.heap.size W h.items.row (Nat.le_refl _) (by have := hs.1; simp only [Q.Qm.a, List.length_map] at this; unfold maxLen; omega) (fun m hm => by have := hs.2.2 m.u (List.mem_map.2 ⟨m, hm, rfl⟩); have h1 := this.1; have h2 := this.2.1; unfold maxLen; omega) (by have := hs.2.1.1; simp only [Q.Qm.a] at this; unfold maxLen; omega) (by have := hs.2.1.2.1; simp only [Q.Qm.a] at this; unfold maxLen; omega))
  obtain ⟨cv, hcv⟩ : ∃ cv, Q.chk q.a = cv := ⟨_, rfl⟩
  simp only [hcv] at C1 C2
  clear hcv
  replace C1 := Lib.hid C1
  replace C2 := Lib.hid C2
  obtain ⟨ck, rt, sp, ⟨⟨p0, p1, p2, p3, p4⟩, a0, c0, a1, c1⟩, be, en, it, ai, ci⟩ := q
  simp only [Q.Qm.cells, Q.Um.cells, List.map_cons, List.map_nil, List.length_cons, List.length_nil, Nat.zero_add] at GI GC gv1 gv2 SM C1 C2 V0 ⊢
  generalize hg1 : Q.gr (it.map (·.u)) = g1 at *
  generalize hg2 : Q.gr [⟨p0, p1, p2, p3, p4⟩] = g2 at *
  have k0 := cell_of_block_ (i := 0) V0
  have k1 := cell_of_block_ (i := 1) V0
  have k2 := cell_of_block_ (i := 2) V0
  have k3 := cell_of_block_ (i := 3) V0
  have k4 := cell_of_block_ (i := 4) V0
  have k5 := cell_of_block_ (i := 5) V0
  have k6 := cell_of_block_ (i := 6) V0
  have k7 := cell_of_block_ (i := 7) V0
  have k8 := cell_of_block_ (i := 8) V0
  have k9 := cell_of_block_ (i := 9) V0
  have k10 := cell_of_block_ (i := 10) V0
  simp at k0 k1 k2 k3 k4 k5 k6 k7 k8 k9 k10
  simp only [World.size_alloc] at GC
  replace GI := Lib.hid GI
  replace GC := Lib.hid GC
  replace N1 := Lib.hid N1
  replace N2 := Lib.hid N2
  clear hq b0 V0 hg1 hg2
  have AWK := Lib.hid awake_any
  have CELL0 : Hid (∀ W : World, Q.HQ W w.heap.size (⟨ck, rt, sp, ⟨⟨p0, p1, p2, p3, p4⟩, a0, c0, a1, c1⟩, be, en, it, ai, ci⟩ : Q.Qm) → (W.cell? ⟨w.heap.size, 0, none⟩ = some (.int .i64 ck) ∧ W.cell? ⟨w.heap.size, 1, none⟩ = some (.int .i64 rt) ∧ W.cell? ⟨w.heap.size, 2, none⟩ = some (.bool sp) ∧ W.cell? ⟨w.heap.size, 3, none⟩ = some (.slice a0 p0.length c0) ∧ W.cell? ⟨w.heap.size, 4, none⟩ = some (.slice a1 p1.length c1) ∧ W.cell? ⟨w.heap.size, 5, none⟩ = some (.int .i64 p2) ∧ W.cell? ⟨w.heap.size, 6, none⟩ = some (.int .i64 p3) ∧ W.cell? ⟨w.heap.size, 7, none⟩ = some (.int .i64 p4) ∧ W.cell? ⟨w.heap.size, 8, none⟩ = some (.int .i64 be) ∧ W.cell? ⟨w.heap.size, 9, none⟩ = some (.int .i64 en) ∧ W.cell? ⟨w.heap.size, 10, none⟩ = some (.slice ai it.length ci))) := Lib.hid (fun W h9 => by
    have h8 := h9.v
    simp only [Q.Qm.cells] at h8
    have r0 := cell_of_block_ (i := 0) h8
    have r1 := cell_of_block_ (i := 1) h8
    have r2 := cell_of_block_ (i := 2) h8
    have r3 := cell_of_block_ (i := 3) h8
    have r4 := cell_of_block_ (i := 4) h8
    have r5 := cell_of_block_ (i := 5) h8
    have r6 := cell_of_block_ (i := 6) h8
    have r7 := cell_of_block_ (i := 7) h8
    have r8 := cell_of_block_ (i := 8) h8
    have r9 := cell_of_block_ (i := 9) h8
    have r10 := cell_of_block_ (i := 10) h8
    simp at r0 r1 r2 r3 r4 r5 r6 r7 r8 r9 r10
    exact ⟨r0, r1, r2, r3, r4, r5, r6, r7, r8, r9, r10⟩)
  rcases gv1 with rfl | rfl
  case inr =>
    clear SM C1 C2 GC
    go_enter Try.func4, Try.ntmps4
    go_wp2_with (first
      | (go_at_call 12; refine GI.out.mono ?_; clear GI; rintro e w1 ⟨rfl, rfl⟩)
      | (go_at_call 13; refine (AWK.out _).mono ?_; rintro e w2 ⟨rfl, b2⟩))
    go_ret
    exact ⟨rfl, B0.out.trans (b2.mono B0.out.size)⟩
  rcases gv2 with rfl | rfl
  case inr =>
    clear SM C1 C2
    go_enter Try.func4, Try.ntmps4
    go_wp2_with (first
      | (go_at_call 12; refine GI.out.mono ?_; clear GI; rintro e w1 ⟨rfl, rfl⟩)
      | (go_at_call 12; refine GC.out.mono ?_; clear GC; rintro e w1 ⟨rfl, rfl⟩)
      | (go_at_call 13; refine (AWK.out _).mono ?_; rintro e w2 ⟨rfl, b2⟩))
    go_ret
    have bb := B0.out.trans ((below_box (w.alloc (.cells #[.int .i64 ck, .int .i64 rt, .bool sp, .slice a0 p0.length c0, .slice a1 p1.length c1, .int .i64 p2, .int .i64 p3, .int .i64 p4, .int .i64 be, .int .i64 en, .slice ai it.length ci] 28)) (.cells #[.slice a0 p0.length c0, .slice a1 p1.length c1, .int .i64 p2, .int .i64 p3, .int .i64 p4] 25)).mono B0.out.size)
    exact ⟨rfl, bb.trans (b2.mono bb.size)⟩
  have hs := SM.out rfl rfl
  clear SM
  have C1S := Lib.hid (C1.out hs)
  have C2S := Lib.hid (C2.out hs)
  clear C1 C2
  go_enter Try.func4, Try.ntmps4
  go_wp2_with (first
    | (go_at_call 12; refine GI.out.mono ?_; clear GI; rintro e w1 ⟨rfl, rfl⟩)
    | (go_at_call 12; refine GC.out.mono ?_; clear GC; rintro e w1 ⟨rfl, rfl⟩)
    | (go_at_call 21; refine (N1.out _).mono ?_; clear N1; rintro e w3 ⟨rfl, b3⟩; (have HB3 := Lib.hid b3); (have S3 := b3.size); clear b3)
    | (go_at_call 22; refine (N2.out _).mono ?_; clear N2; rintro e w4 ⟨rfl, b4⟩; (have HB4 := Lib.hid b4); (have S4 := b4.size); clear b4))
  have bb2 := below_box (w.alloc (.cells #[.int .i64 ck, .int .i64 rt, .bool sp, .slice a0 p0.length c0, .slice a1 p1.length c1, .int .i64 p2, .int .i64 p3, .int .i64 p4, .int .i64 be, .int .i64 en, .slice ai it.length ci] 28)) (.cells #[.slice a0 p0.length c0, .slice a1 p1.length c1, .int .i64 p2, .int .i64 p3, .int .i64 p4] 25)
  have bb3 := bb2.trans (HB3.out.mono bb2.size)
  have bx3 := below_box w3 (.cells #[.int .i64 nt, .int .i64 nr, .bool false, .slice none 0 0, .slice none 0 0, .int .i64 0, .int .i64 0, .int .i64 0, .int .i64 0, .int .i64 0, .slice none 0 0] 28)
  have v3 := heap_alloc_new w3 (.cells #[.int .i64 nt, .int .i64 nr, .bool false, .slice none 0 0, .slice none 0 0, .int .i64 0, .int .i64 0, .int .i64 0, .int .i64 0, .int .i64 0, .slice none 0 0] 28)
  have bx4 := below_box w4 (.cells #[.int .i64 nt, .int .i64 nr, .bool false, .slice none 0 0, .slice none 0 0, .int .i64 0, .int .i64 0, .int .i64 0, .int .i64 0, .int .i64 0, .slice none 0 0] 28)
  have v4 := heap_alloc_new w4 (.cells #[.int .i64 nt, .int .i64 nr, .bool false, .slice none 0 0, .slice none 0 0, .int .i64 0, .int .i64 0, .int .i64 0, .int .i64 0, .int .i64 0, .slice none 0 0] 28)
  have b34 : Below w3.heap.size w3 (w4.alloc (.cells #[.int .i64 nt, .int .i64 nr, .bool false, .slice none 0 0, .slice none 0 0, .int .i64 0, .int .i64 0, .int .i64 0, .int .i64 0, .int .i64 0, .slice none 0 0] 28)) := (bx3.trans (HB4.out.mono bx3.size)).trans (bx4.mono (Nat.le_trans bx3.size HB4.out.size))
  have v35 := (bx4.block _ (Nat.lt_of_lt_of_le (Array.getElem?_eq_some_iff.1 v3).1 HB4.out.size)).trans ((HB4.out.block _ (Array.getElem?_eq_some_iff.1 v3).1).trans v3)
  have HQ5 := HQ0.out.below (bb3.trans (b34.mono bb3.size))
  have B5 := B0.out.trans ((bb3.trans (b34.mono bb3.size)).mono B0.out.size)
  try simp only [Q.Qm.cells] at B5
  obtain ⟨X3, hX3⟩ : ∃ X, w3.heap.size = X := ⟨_, rfl⟩
  obtain ⟨X4, hX4⟩ : ∃ X, w4.heap.size = X := ⟨_, rfl⟩
  obtain ⟨N, hN⟩ : ∃ N, w.heap.size = N := ⟨_, rfl⟩
  obtain ⟨W5, hW5⟩ : ∃ W, w4.alloc (.cells #[.int .i64 nt, .int .i64 nr, .bool false, .slice none 0 0, .slice none 0 0, .int .i64 0, .int .i64 0, .int .i64 0, .int .i64 0, .int .i64 0, .slice none 0 0] 28) = W := ⟨_, rfl⟩
  rw [hW5] at v35 v4 HQ5 B5 ⊢
  rw [hX3] at v35 ⊢
  rw [hX4] at v4 ⊢
  rw [hN] at HQ5 B5 ⊢
  have HN := Lib.hid hN
  rw [hN] at CELL0
  have V35 := Lib.hid v35
  have V45 := Lib.hid v4
  have HB5 := Lib.hid B5
  have H5 := Lib.hid HQ5
  have ls3 := (Array.getElem?_eq_some_iff.1 v35).1
  have ls4 := (Array.getElem?_eq_some_iff.1 v4).1
  clear hX3 hX4 hN hW5 v35 v4 HQ5 B5 bb2 bb3 bx3 bx4 v3 b34 HB3 HB4 S3 S4 k0 k1 k2 k3 k4 k5 k6 k7 k8 k9 k10 HQ0 B0 QG
  have CELL : Hid (∀ W : World, Below W5.heap.size W5 W → ((W.cell? ⟨N, 0, none⟩ = some (.int .i64 ck) ∧ W.cell? ⟨N, 1, none⟩ = some (.int .i64 rt) ∧ W.cell? ⟨N, 2, none⟩ = some (.bool sp) ∧ W.cell? ⟨N, 3, none⟩ = some (.slice a0 p0.length c0) ∧ W.cell? ⟨N, 4, none⟩ = some (.slice a1 p1.length c1) ∧ W.cell? ⟨N, 5, none⟩ = some (.int .i64 p2) ∧ W.cell? ⟨N, 6, none⟩ = some (.int .i64 p3) ∧ W.cell? ⟨N, 7, none⟩ = some (.int .i64 p4) ∧ W.cell? ⟨N, 8, none⟩ = some (.int .i64 be) ∧ W.cell? ⟨N, 9, none⟩ = some (.int .i64 en) ∧ W.cell? ⟨N, 10, none⟩ = some (.slice ai it.length ci)) ∧ (W.cell? ⟨X3, 0, none⟩ = some (.int .i64 nt) ∧ W.cell? ⟨X3, 1, none⟩ = some (.int .i64 nr) ∧ W.cell? ⟨X3, 2, none⟩ = some (.bool false) ∧ W.cell? ⟨X3, 3, none⟩ = some (.slice none 0 0) ∧ W.cell? ⟨X3, 4, none⟩ = some (.slice none 0 0) ∧ W.cell? ⟨X3, 5, none⟩ = some (.int .i64 0) ∧ W.cell? ⟨X3, 6, none⟩ = some (.int .i64 0) ∧ W.cell? ⟨X3, 7, none⟩ = some (.int .i64 0) ∧ W.cell? ⟨X3, 8, none⟩ = some (.int .i64 0) ∧ W.cell? ⟨X3, 9, none⟩ = some (.int .i64 0) ∧ W.cell? ⟨X3, 10, none⟩ = some (.slice none 0 0)) ∧ (W.cell? ⟨X4, 0, none⟩ = some (.int .i64 nt) ∧ W.cell? ⟨X4, 1, none⟩ = some (.int .i64 nr) ∧ W.cell? ⟨X4, 2, none⟩ = some (.bool false) ∧ W.cell? ⟨X4, 3, none⟩ = some (.slice none 0 0) ∧ W.cell? ⟨X4, 4, none⟩ = some (.slice none 0 0) ∧ W.cell? ⟨X4, 5, none⟩ = some (.int .i64 0) ∧ W.cell? ⟨X4, 6, none⟩ = some (.int .i64 0) ∧ W.cell? ⟨X4, 7, none⟩ = some (.int .i64 0) ∧ W.cell? ⟨X4, 8, none⟩ = some (.int .i64 0) ∧ W.cell? ⟨X4, 9, none⟩ = some (.int .i64 0) ∧ W.cell? ⟨X4, 10, none⟩ = some (.slice none 0 0)))) := Lib.hid (fun W hb => by
    have h8 := (hb.block X3 ls3).trans V35.out
    have h7 := (hb.block X4 ls4).trans V45.out
    refine ⟨CELL0.out W (H5.out.below hb), ?_, ?_⟩
    · have h9 := h8
      have r0 := cell_of_block_ (i := 0) h9
      have r1 := cell_of_block_ (i := 1) h9
      have r2 := cell_of_block_ (i := 2) h9
      have r3 := cell_of_block_ (i := 3) h9
      have r4 := cell_of_block_ (i := 4) h9
      have r5 := cell_of_block_ (i := 5) h9
      have r6 := cell_of_block_ (i := 6) h9
      have r7 := cell_of_block_ (i := 7) h9
      have r8 := cell_of_block_ (i := 8) h9
      have r9 := cell_of_block_ (i := 9) h9
      have r10 := cell_of_block_ (i := 10) h9
      simp at r0 r1 r2 r3 r4 r5 r6 r7 r8 r9 r10
      exact ⟨r0, r1, r2, r3, r4, r5, r6, r7, r8, r9, r10⟩
    · have h9 := h7
      have r0 := cell_of_block_ (i := 0) h9
      have r1 := cell_of_block_ (i := 1) h9
      have r2 := cell_of_block_ (i := 2) h9
      have r3 := cell_of_block_ (i := 3) h9
      have r4 := cell_of_block_ (i := 4) h9
      have r5 := cell_of_block_ (i := 5) h9
      have r6 := cell_of_block_ (i := 6) h9
      have r7 := cell_of_block_ (i := 7) h9
      have r8 := cell_of_block_ (i := 8) h9
      have r9 := cell_of_block_ (i := 9) h9
      have r10 := cell_of_block_ (i := 10) h9
      simp at r0 r1 r2 r3 r4 r5 r6 r7 r8 r9 r10
      exact ⟨r0, r1, r2, r3, r4, r5, r6, r7, r8, r9, r10⟩)
  have SAME := Lib.hid (fun W => same_any (⟨nt, nr, false, ⟨Q.zero, none, 0, none, 0⟩, 0, 0, [], none, 0⟩ : Q.Qm) (⟨nt, nr, false, ⟨Q.zero, none, 0, none, 0⟩, 0, 0, [], none, 0⟩ : Q.Qm) 0 W ⟨Q.zero_in _ _, ⟨Reads.none_, fun m hm => by cases hm⟩, Nat.le_refl _⟩ ⟨Q.zero_in _ _, ⟨Reads.none_, fun m hm => by cases hm⟩, Nat.le_refl _⟩ (Nat.zero_le _) rfl ⟨Nat.zero_le _, Nat.zero_le _, fun c hc => by cases hc⟩ (fun m hm => by cases hm) (Nat.zero_le _))
  try simp only [Q.Qm.cells, Q.zero, List.length_nil] at SAME
  refine wp_normal ?_
  refine wp_region_held_drew (S := fun w' => (w'.cell? ⟨N, 0, none⟩ = some (.int .i64 ck) ∧ w'.cell? ⟨N, 1, none⟩ = some (.int .i64 rt) ∧ w'.cell? ⟨N, 2, none⟩ = some (.bool sp) ∧ w'.cell? ⟨N, 3, none⟩ = some (.slice a0 p0.length c0) ∧ w'.cell? ⟨N, 4, none⟩ = some (.slice a1 p1.length c1) ∧ w'.cell? ⟨N, 5, none⟩ = some (.int .i64 p2) ∧ w'.cell? ⟨N, 6, none⟩ = some (.int .i64 p3) ∧ w'.cell? ⟨N, 7, none⟩ = some (.int .i64 p4) ∧ w'.cell? ⟨N, 8, none⟩ = some (.int .i64 be) ∧ w'.cell? ⟨N, 9, none⟩ = some (.int .i64 en) ∧ w'.cell? ⟨N, 10, none⟩ = some (.slice ai it.length ci)) ∧ (w'.cell? ⟨X3, 0, none⟩ = some (.int .i64 nt) ∧ w'.cell? ⟨X3, 1, none⟩ = some (.int .i64 nr) ∧ w'.cell? ⟨X3, 2, none⟩ = some (.bool false) ∧ w'.cell? ⟨X3, 3, none⟩ = some (.slice none 0 0) ∧ w'.cell? ⟨X3, 4, none⟩ = some (.slice none 0 0) ∧ w'.cell? ⟨X3, 5, none⟩ = some (.int .i64 0) ∧ w'.cell? ⟨X3, 6, none⟩ = some (.int .i64 0) ∧ w'.cell? ⟨X3, 7, none⟩ = some (.int .i64 0) ∧ w'.cell? ⟨X3, 8, none⟩ = some (.int .i64 0) ∧ w'.cell? ⟨X3, 9, none⟩ = some (.int .i64 0) ∧ w'.cell? ⟨X3, 10, none⟩ = some (.slice none 0 0)) ∧ (w'.cell? ⟨X4, 0, none⟩ = some (.int .i64 nt) ∧ w'.cell? ⟨X4, 1, none⟩ = some (.int .i64 nr) ∧ w'.cell? ⟨X4, 2, none⟩ = some (.bool false) ∧ w'.cell? ⟨X4, 3, none⟩ = some (.slice none 0 0) ∧ w'.cell? ⟨X4, 4, none⟩ = some (.slice none 0 0) ∧ w'.cell? ⟨X4, 5, none⟩ = some (.int .i64 0) ∧ w'.cell? ⟨X4, 6, none⟩ = some (.int .i64 0) ∧ w'.cell? ⟨X4, 7, none⟩ = some (.int .i64 0) ∧ w'.cell? ⟨X4, 8, none⟩ = some (.int .i64 0) ∧ w'.cell? ⟨X4, 9, none⟩ = some (.int .i64 0) ∧ w'.cell? ⟨X4, 10, none⟩ = some (.slice none 0 0))) (by kernel_rfl) (CELL.out _ (Below.refl _ W5).drew) (fun hHeld => ?_)
  obtain ⟨wd, hwd⟩ : ∃ wd, W5.drew = wd := ⟨_, rfl⟩
  have bd : Below W5.heap.size W5 wd := by rw [← hwd]; exact (Below.refl _ W5).drew
  rw [hwd] at hHeld ⊢
  clear hwd
  refine tk 0 rfl (by kernel_rfl) hHeld (fun _ _ _ h => h) (v := ?_) ?_ ?_
  rotate_left 1
  · (intro w hSw; (try dsimp only at hSw); (try simp only [List.getElem_toArray, List.getElem_cons_succ, List.getElem_cons_zero]); go_simp) <;> (with_reducible rfl)
  try simp only [List.getElem_toArray, List.getElem_cons_succ, List.getElem_cons_zero, Act.put, List.setIfInBounds_toArray, List.set_cons_zero, List.set_cons_succ]
  refine tk 2 rfl (by kernel_rfl) hHeld (fun _ _ _ h => h) (v := ?_) ?_ ?_
  rotate_left 1
  · (intro w hSw; (try dsimp only at hSw); (try simp only [List.getElem_toArray, List.getElem_cons_succ, List.getElem_cons_zero]); go_simp) <;> (with_reducible rfl)
  try simp only [List.getElem_toArray, List.getElem_cons_succ, List.getElem_cons_zero, Act.put, List.setIfInBounds_toArray, List.set_cons_zero, List.set_cons_succ]
  refine wpAnyH_ready (rs := [1]) (by kernel_rfl) (by simp) (AllReadyH.cons rfl (fun K hK => ?_) AllReadyH.nil)
  simp only [List.getElem_toArray, List.getElem_cons_succ, List.getElem_cons_zero]
  go_simp
  go_at_call 17
  refine (C1S.out wd (H5.out.below bd).i).mono ?_
  rintro e wa ⟨rfl, bz⟩
  try go_wp2_with fail
  have ba := bd.trans (bz.mono bd.size)
  refine hK.out _ _ (CELL.out _ ba) (fun hHeld => ?_)
  clear hK K bz
  try simp only [List.getElem_toArray, List.getElem_cons_succ, List.getElem_cons_zero, Act.put, List.setIfInBounds_toArray, List.set_cons_zero, List.set_cons_succ]
  refine wpAnyH_ready (rs := [3]) (by kernel_rfl) (by simp) (AllReadyH.cons rfl (fun K hK => ?_) AllReadyH.nil)
  simp only [List.getElem_toArray, List.getElem_cons_succ, List.getElem_cons_zero]
  go_simp
  go_at_call 23
  refine (C2S.out wa (H5.out.below ba).i).mono ?_
  rintro e wb ⟨rfl, bz⟩
  try go_wp2_with fail
  have bb := ba.trans (bz.mono ba.size)
  refine hK.out _ _ (CELL.out _ bb) (fun hHeld => ?_)
  clear hK K bz
  try simp only [List.getElem_toArray, List.getElem_cons_succ, List.getElem_cons_zero, Act.put, List.setIfInBounds_toArray, List.set_cons_zero, List.set_cons_succ]
  refine tk 4 rfl (by kernel_rfl) hHeld (fun _ _ _ h => h) (v := ?_) ?_ ?_
  rotate_left 1
  · (intro w hSw; (try dsimp only at hSw); (try simp only [List.getElem_toArray, List.getElem_cons_succ, List.getElem_cons_zero]); go_simp) <;> (with_reducible rfl)
  try simp only [List.getElem_toArray, List.getElem_cons_succ, List.getElem_cons_zero, Act.put, List.setIfInBounds_toArray, List.set_cons_zero, List.set_cons_succ]
  refine tk 5 rfl (by kernel_rfl) hHeld (fun _ _ _ h => h) (v := ?_) ?_ ?_
  rotate_left 1
  · (intro w hSw; (try dsimp only at hSw); (try simp only [List.getElem_toArray, List.getElem_cons_succ, List.getElem_cons_zero]); go_simp) <;> (with_reducible rfl)
  try simp only [List.getElem_toArray, List.getElem_cons_succ, List.getElem_cons_zero, Act.put, List.setIfInBounds_toArray, List.set_cons_zero, List.set_cons_succ]
  refine tk 6 rfl (by kernel_rfl) hHeld (fun _ _ _ h => h) (v := ?_) ?_ ?_
  rotate_left 1
  · (intro w hSw; (try dsimp only at hSw); (try simp only [List.getElem_toArray, List.getElem_cons_succ, List.getElem_cons_zero]); go_simp) <;> (with_reducible rfl)
  try simp only [List.getElem_toArray, List.getElem_cons_succ, List.getElem_cons_zero, Act.put, List.setIfInBounds_toArray, List.set_cons_zero, List.set_cons_succ]
  refine tk 7 rfl (by kernel_rfl) hHeld (fun _ _ _ h => h) (v := ?_) ?_ ?_
  rotate_left 1
  · (intro w hSw; (try dsimp only at hSw); (try simp only [List.getElem_toArray, List.getElem_cons_succ, List.getElem_cons_zero]); go_simp) <;> (with_reducible rfl)
  try simp only [List.getElem_toArray, List.getElem_cons_succ, List.getElem_cons_zero, Act.put, List.setIfInBounds_toArray, List.set_cons_zero, List.set_cons_succ]
  refine wpAnyH_ready (rs := [8]) (by kernel_rfl) (by simp) (AllReadyH.cons rfl (fun K hK => ?_) AllReadyH.nil)
  simp only [List.getElem_toArray, List.getElem_cons_succ, List.getElem_cons_zero]
  go_simp
  go_at_call 16
  refine (SAME.out wb).mono ?_
  rintro e wc ⟨rfl, bz⟩
  try go_wp2_with fail
  have bc := bb.trans (bz.mono bb.size)
  refine hK.out _ _ (CELL.out _ bc) (fun hHeld => ?_)
  clear hK K bz
  try simp only [List.getElem_toArray, List.getElem_cons_succ, List.getElem_cons_zero, Act.put, List.setIfInBounds_toArray, List.set_cons_zero, List.set_cons_succ]
  refine tk 9 rfl (by kernel_rfl) hHeld (fun _ _ _ h => h) (v := ?_) ?_ ?_
  rotate_left 1
  · (intro w hSw; (try dsimp only at hSw); (try simp only [List.getElem_toArray, List.getElem_cons_succ, List.getElem_cons_zero]); go_simp) <;> (with_reducible rfl)
  try simp only [List.getElem_toArray, List.getElem_cons_succ, List.getElem_cons_zero, Act.put, List.setIfInBounds_toArray, List.set_cons_zero, List.set_cons_succ]
  refine tk 10 rfl (by kernel_rfl) hHeld (fun _ _ _ h => h) (v := ?_) ?_ ?_
  rotate_left 1
  · (intro w hSw; (try dsimp only at hSw); (try simp only [List.getElem_toArray, List.getElem_cons_succ, List.getElem_cons_zero]); go_simp) <;> (with_reducible rfl)
  try simp only [List.getElem_toArray, List.getElem_cons_succ, List.getElem_cons_zero, Act.put, List.setIfInBounds_toArray, List.set_cons_zero, List.set_cons_succ]
  refine tk 11 rfl (by kernel_rfl) hHeld (fun _ _ _ h => h) (v := ?_) ?_ ?_
  rotate_left 1
  · (intro w hSw; (try dsimp only at hSw); (try simp only [List.getElem_toArray, List.getElem_cons_succ, List.getElem_cons_zero]); go_simp) <;> (with_reducible rfl)
  try simp only [List.getElem_toArray, List.getElem_cons_succ, List.getElem_cons_zero, Act.put, List.setIfInBounds_toArray, List.set_cons_zero, List.set_cons_succ]
  refine tk 12 rfl (by kernel_rfl) hHeld (fun _ _ _ h => h) (v := ?_) ?_ ?_
  rotate_left 1
  · (intro w hSw; (try dsimp only at hSw); (try simp only [List.getElem_toArray, List.getElem_cons_succ, List.getElem_cons_zero]); go_simp) <;> (with_reducible rfl)
  try simp only [List.getElem_toArray, List.getElem_cons_succ, List.getElem_cons_zero, Act.put, List.setIfInBounds_toArray, List.set_cons_zero, List.set_cons_succ]
  refine tk 13 rfl (by kernel_rfl) hHeld (fun _ _ _ h => h) (v := ?_) ?_ ?_
  rotate_left 1
  · (intro w hSw; (try dsimp only at hSw); (try simp only [List.getElem_toArray, List.getElem_cons_succ, List.getElem_cons_zero]); go_simp) <;> (with_reducible rfl)
  try simp only [List.getElem_toArray, List.getElem_cons_succ, List.getElem_cons_zero, Act.put, List.setIfInBounds_toArray, List.set_cons_zero, List.set_cons_succ]
  refine tk 14 rfl (by kernel_rfl) hHeld (fun _ _ _ h => h) (v := ?_) ?_ ?_
  rotate_left 1
  · (intro w hSw; (try dsimp only at hSw); (try simp only [List.getElem_toArray, List.getElem_cons_succ, List.getElem_cons_zero]); go_simp) <;> (with_reducible rfl)
  try simp only [List.getElem_toArray, List.getElem_cons_succ, List.getElem_cons_zero, Act.put, List.setIfInBounds_toArray, List.set_cons_zero, List.set_cons_succ]
  refine tk 15 rfl (by kernel_rfl) hHeld (fun _ _ _ h => h) (v := ?_) ?_ ?_
  rotate_left 1
  · (intro w hSw; (try dsimp only at hSw); (try simp only [List.getElem_toArray, List.getElem_cons_succ, List.getElem_cons_zero]); go_simp) <;> (with_reducible rfl)
  try simp only [List.getElem_toArray, List.getElem_cons_succ, List.getElem_cons_zero, Act.put, List.setIfInBounds_toArray, List.set_cons_zero, List.set_cons_succ]
  refine wpAnyH_ready (rs := [16]) (by kernel_rfl) (by simp) (AllReadyH.cons rfl (fun K hK => ?_) AllReadyH.nil)
  simp only [List.getElem_toArray, List.getElem_cons_succ, List.getElem_cons_zero]
  go_simp
  go_at_call 13
  refine (AWK.out wc).mono ?_
  rintro e we ⟨rfl, bz⟩
  try go_wp2_with fail
  have be_ := bc.trans (bz.mono bc.size)
  refine hK.out _ _ (CELL.out _ be_) (fun hHeld => ?_)
  clear hK K bz
  try simp only [List.getElem_toArray, List.getElem_cons_succ, List.getElem_cons_zero, Act.put, List.setIfInBounds_toArray, List.set_cons_zero, List.set_cons_succ]
  refine tk 17 rfl (by kernel_rfl) hHeld (fun _ _ _ h => h) (v := ?_) ?_ ?_
  rotate_left 1
  · (intro w hSw; (try dsimp only at hSw); (try simp only [List.getElem_toArray, List.getElem_cons_succ, List.getElem_cons_zero]); go_simp) <;> (with_reducible rfl)
  try simp only [List.getElem_toArray, List.getElem_cons_succ, List.getElem_cons_zero, Act.put, List.setIfInBounds_toArray, List.set_cons_zero, List.set_cons_succ]
  refine tk 18 rfl (by kernel_rfl) hHeld (fun _ _ _ h => h) (v := ?_) ?_ ?_
  rotate_left 1
  · (intro w hSw; (try dsimp only at hSw); (try simp only [List.getElem_toArray, List.getElem_cons_succ, List.getElem_cons_zero]); go_simp) <;> (with_reducible rfl)
  try simp only [List.getElem_toArray, List.getElem_cons_succ, List.getElem_cons_zero, Act.put, List.setIfInBounds_toArray, List.set_cons_zero, List.set_cons_succ]
  refine wpAnyH_done (by kernel_rfl) ?_ _
  go_wp2_with fail
  go_ret
  exact ⟨rfl, by rw [HN.out]; exact HB5.out.trans (be_.mono (by have := HB5.out.size; have := HN.out; omega))⟩
theorem checklaw_row (q : Q.Qm) (t r : Int) (w : World) (hq : Q.QGood w q) (_ : -9223372036854775808 ≤ t) (_ : t ≤ 9223372036854775807) (_ : -9223372036854775808 ≤ r) (_ : r ≤ 9223372036854775807) :
    Calls Try.prog 4 #[.agg q.cells.toArray, .int .i64 t, .int .i64 r] w fun e w' => e = .returned (.bool true) ∧ Below w.heap.size w w' := checklaw_any q t r w hq
end Go.Proofs.Ytfjkelngdljikaa
