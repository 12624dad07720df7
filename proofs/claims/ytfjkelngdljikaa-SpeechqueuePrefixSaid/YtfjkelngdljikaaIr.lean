/-
  The walks of layer 44: the reference's Interrupt. By an AI agent.
-/
import Derived.Test.YtfjkelngdljikaaIn
namespace Go.Proofs.Ytfjkelngdljikaa
set_option linter.unusedVariables false
set_option linter.unusedSimpArgs false
open Go.RowKit Go.Joins Go.Deep

set_option maxRecDepth 100000 in
set_option maxHeartbeats 4000000 in
theorem refinter_any (q : Q.Qm) (B : Nat) (w : World) (h : Q.QIn w B q) (hB : B ≤ w.heap.size) (hsml : q.a.Sml) (hchk : Q.chk q.a = 0) (hs : q.sp = true) :
    Calls Try.prog 19 #[.agg q.cells.toArray] w fun e w' => Q.IIn (Q.inter q.a) ⟨q.cur.u, q.be, q.clock, false⟩ 0 w w' e := by
  have hcl := Q.chk_clock0 hchk
  have ST := fun (W : World) (hw : Below w.heap.size w W) => refsettle_any q.silent w.heap.size W ((((h.below hw hB).more hB).mix).silent) hw.size (by have := hsml.1; simp only [Q.Qm.a, List.length_map] at this; simp only [Q.Qm.silent]; omega) (fun u r e => Q.Small.ready (hsml.2.2 u (by rw [show q.a.items = q.silent.a.items from rfl, e]; simp)) hcl.1 (Int.le_trans hcl.2 (by decide)))
  have SI := fun (W : World) => refsilent_any q W
  have HCU := Lib.hid h.cur
  obtain ⟨ck, rt, sp, ⟨⟨p0, p1, p2, p3, p4⟩, a0, c0, a1, c1⟩, be, en, items, ai, ci⟩ := q
  simp only at hs
  subst hs
  simp only [Q.Qm.cells, Q.Um.cells] at SI ST ⊢
  have b0 := (((below_box w (.cells #[.int .i64 ck, .int .i64 rt, .bool true, .slice a0 p0.length c0, .slice a1 p1.length c1, .int .i64 p2, .int .i64 p3, .int .i64 p4, .int .i64 be, .int .i64 en, .slice ai items.length ci] 28)).alloc (by simp) (.cells (Q.new 0 0) 28)).alloc (by simp; omega) (.cells #[.slice none 0 0, .slice none 0 0, .int .i64 0, .int .i64 0, .int .i64 0, .int .i64 0, .int .i64 0, .bool false] 38)).alloc (by simp; omega) (.cells #[.slice a0 p0.length c0, .slice a1 p1.length c1, .int .i64 p2, .int .i64 p3, .int .i64 p4, .int .i64 be, .int .i64 ck, .bool false] 38)
  have V0 := heap_old2 _ (.cells #[.slice a0 p0.length c0, .slice a1 p1.length c1, .int .i64 p2, .int .i64 p3, .int .i64 p4, .int .i64 be, .int .i64 ck, .bool false] 38) (heap_old2 _ (.cells #[.slice none 0 0, .slice none 0 0, .int .i64 0, .int .i64 0, .int .i64 0, .int .i64 0, .int .i64 0, .bool false] 38) (heap_old2 (w.alloc (.cells #[.int .i64 ck, .int .i64 rt, .bool true, .slice a0 p0.length c0, .slice a1 p1.length c1, .int .i64 p2, .int .i64 p3, .int .i64 p4, .int .i64 be, .int .i64 en, .slice ai items.length ci] 28)) (.cells (Q.new 0 0) 28) (heap_alloc_new w _)))
  have V1 := heap_old2 _ (.cells #[.slice a0 p0.length c0, .slice a1 p1.length c1, .int .i64 p2, .int .i64 p3, .int .i64 p4, .int .i64 be, .int .i64 ck, .bool false] 38) (heap_old2 _ (.cells #[.slice none 0 0, .slice none 0 0, .int .i64 0, .int .i64 0, .int .i64 0, .int .i64 0, .int .i64 0, .bool false] 38) (new_block (w.alloc (.cells #[.int .i64 ck, .int .i64 rt, .bool true, .slice a0 p0.length c0, .slice a1 p1.length c1, .int .i64 p2, .int .i64 p3, .int .i64 p4, .int .i64 be, .int .i64 en, .slice ai items.length ci] 28)) (Q.new 0 0) 28 (World.size_alloc _ _)))
  have V2 := heap_old2 _ (.cells #[.slice a0 p0.length c0, .slice a1 p1.length c1, .int .i64 p2, .int .i64 p3, .int .i64 p4, .int .i64 be, .int .i64 ck, .bool false] 38) (new_block ((w.alloc (.cells #[.int .i64 ck, .int .i64 rt, .bool true, .slice a0 p0.length c0, .slice a1 p1.length c1, .int .i64 p2, .int .i64 p3, .int .i64 p4, .int .i64 be, .int .i64 en, .slice ai items.length ci] 28)).alloc (.cells (Q.new 0 0) 28)) #[.slice none 0 0, .slice none 0 0, .int .i64 0, .int .i64 0, .int .i64 0, .int .i64 0, .int .i64 0, .bool false] 38 (n := w.heap.size + 1 + 1) (by simp))
  have V3 := new_block (((w.alloc (.cells #[.int .i64 ck, .int .i64 rt, .bool true, .slice a0 p0.length c0, .slice a1 p1.length c1, .int .i64 p2, .int .i64 p3, .int .i64 p4, .int .i64 be, .int .i64 en, .slice ai items.length ci] 28)).alloc (.cells (Q.new 0 0) 28)).alloc (.cells #[.slice none 0 0, .slice none 0 0, .int .i64 0, .int .i64 0, .int .i64 0, .int .i64 0, .int .i64 0, .bool false] 38)) #[.slice a0 p0.length c0, .slice a1 p1.length c1, .int .i64 p2, .int .i64 p3, .int .i64 p4, .int .i64 be, .int .i64 ck, .bool false] 38 (n := w.heap.size + 1 + 1 + 1) (by simp)
  have HIQ := Lib.hid infoQ
  have HIS := Lib.hid infoS8
  replace SI := Lib.hid SI
  replace ST := Lib.hid ST
  replace b0 := Lib.hid b0
  replace V0 := Lib.hid V0
  replace V1 := Lib.hid V1
  replace V2 := Lib.hid V2
  replace V3 := Lib.hid V3
  clear h hsml hchk hcl
  go_enter Try.func19, Try.ntmps19
  go_wp2_with fail
  obtain ⟨wx, hwx⟩ : ∃ wx, (((w.alloc (.cells #[.int .i64 ck, .int .i64 rt, .bool true, .slice a0 p0.length c0, .slice a1 p1.length c1, .int .i64 p2, .int .i64 p3, .int .i64 p4, .int .i64 be, .int .i64 en, .slice ai items.length ci] 28)).alloc (.cells (Q.new 0 0) 28)).alloc (.cells #[.slice none 0 0, .slice none 0 0, .int .i64 0, .int .i64 0, .int .i64 0, .int .i64 0, .int .i64 0, .bool false] 38)).alloc (.cells #[.slice a0 p0.length c0, .slice a1 p1.length c1, .int .i64 p2, .int .i64 p3, .int .i64 p4, .int .i64 be, .int .i64 ck, .bool false] 38) = wx := ⟨_, rfl⟩
  rw [hwx] at b0 V0 V1 V2 V3 ⊢
  clear hwx
  obtain ⟨N, hN⟩ : ∃ N, w.heap.size = N := ⟨_, rfl⟩
  have HN := Lib.hid hN
  rw [hN] at hB b0 V0 V1 V2 V3 ST ⊢
  clear hN
  have hTs := (Array.getElem?_eq_some_iff.1 V3.out).1
  have far : ∀ W : World, Below wx.heap.size wx W → W.heap[N + 1 + 1 + 1]? = some (.cells #[.slice a0 p0.length c0, .slice a1 p1.length c1, .int .i64 p2, .int .i64 p3, .int .i64 p4, .int .i64 be, .int .i64 ck, .bool false] 38 (0, 0)) ∧ W.heap[N]? = some (.cells #[.int .i64 ck, .int .i64 rt, .bool true, .slice a0 p0.length c0, .slice a1 p1.length c1, .int .i64 p2, .int .i64 p3, .int .i64 p4, .int .i64 be, .int .i64 en, .slice ai items.length ci] 28 (0, 0)) ∧ W.heap[N + 1]? = some (.cells (Q.new 0 0) 28 (0, 0)) ∧ W.heap[N + 1 + 1]? = some (.cells #[.slice none 0 0, .slice none 0 0, .int .i64 0, .int .i64 0, .int .i64 0, .int .i64 0, .int .i64 0, .bool false] 38 (0, 0)) ∧ Below N w W := fun W h => ⟨(h.block (N + 1 + 1 + 1) hTs).trans V3.out, (h.block N (by omega)).trans V0.out, (h.block (N + 1) (by omega)).trans V1.out, (h.block (N + 1 + 1) (by omega)).trans V2.out, b0.out.trans (h.mono (by omega))⟩
  have FAR := Lib.hid far
  clear far
  obtain ⟨T, hT⟩ : ∃ T, N + 1 + 1 + 1 = T := ⟨_, rfl⟩
  rw [hT] at V3 FAR hTs ⊢
  have hTN : N + 3 ≤ T := by omega
  clear hT
  have CELL : Hid (∀ W' : World, W'.heap[N]? = some (.cells #[.int .i64 ck, .int .i64 rt, .bool true, .slice a0 p0.length c0, .slice a1 p1.length c1, .int .i64 p2, .int .i64 p3, .int .i64 p4, .int .i64 be, .int .i64 en, .slice ai items.length ci] 28 (0, 0)) → W'.heap[T]? = some (.cells #[.slice a0 p0.length c0, .slice a1 p1.length c1, .int .i64 p2, .int .i64 p3, .int .i64 p4, .int .i64 be, .int .i64 ck, .bool false] 38 (0, 0)) → ((W'.cell? ⟨N, 0, none⟩ = some (.int .i64 ck) ∧ W'.cell? ⟨N, 1, none⟩ = some (.int .i64 rt) ∧ W'.cell? ⟨N, 2, none⟩ = some (.bool true) ∧ W'.cell? ⟨N, 3, none⟩ = some (.slice a0 p0.length c0) ∧ W'.cell? ⟨N, 4, none⟩ = some (.slice a1 p1.length c1) ∧ W'.cell? ⟨N, 5, none⟩ = some (.int .i64 p2) ∧ W'.cell? ⟨N, 6, none⟩ = some (.int .i64 p3) ∧ W'.cell? ⟨N, 7, none⟩ = some (.int .i64 p4) ∧ W'.cell? ⟨N, 8, none⟩ = some (.int .i64 be) ∧ W'.cell? ⟨N, 9, none⟩ = some (.int .i64 en) ∧ W'.cell? ⟨N, 10, none⟩ = some (.slice ai items.length ci)) ∧ W'.cell? ⟨T, 0, none⟩ = some (.slice a0 p0.length c0) ∧ W'.cell? ⟨T, 1, none⟩ = some (.slice a1 p1.length c1) ∧ W'.cell? ⟨T, 2, none⟩ = some (.int .i64 p2) ∧ W'.cell? ⟨T, 3, none⟩ = some (.int .i64 p3) ∧ W'.cell? ⟨T, 4, none⟩ = some (.int .i64 p4) ∧ W'.cell? ⟨T, 5, none⟩ = some (.int .i64 be) ∧ W'.cell? ⟨T, 6, none⟩ = some (.int .i64 ck) ∧ W'.cell? ⟨T, 7, none⟩ = some (.bool false))) := Lib.hid (fun W' h9 h8 => by
    have r0 := cell_of_block_ (i := 0) h9
    have r1 := cell_of_block_ (i := 1) h9
    have r2 := cell_of_block_ (i := 2) h9
    have r3 := cell_of_block_ (i := 3) h9
    have r4 := cell_of_block_ (i := 4) h9
    have r5 := cell_of_block_ (i := 5) h9
    have r6 := cell_of_block_ (i := 6) h9
    have r7 := cell_of_block_ (i := 7) h9
    have r8 := cell_of_block_ (i := 8) h9
    have r9 := cell_of_block_ (i := 9) h9
    have r10 := cell_of_block_ (i := 10) h9
    simp at r0 r1 r2 r3 r4 r5 r6 r7 r8 r9 r10
    have s0 := cell_of_block_ (i := 0) h8
    have s1 := cell_of_block_ (i := 1) h8
    have s2 := cell_of_block_ (i := 2) h8
    have s3 := cell_of_block_ (i := 3) h8
    have s4 := cell_of_block_ (i := 4) h8
    have s5 := cell_of_block_ (i := 5) h8
    have s6 := cell_of_block_ (i := 6) h8
    have s7 := cell_of_block_ (i := 7) h8
    simp at s0 s1 s2 s3 s4 s5 s6 s7
    exact ⟨⟨r0, r1, r2, r3, r4, r5, r6, r7, r8, r9, r10⟩, s0, s1, s2, s3, s4, s5, s6, s7⟩)
  refine wp_normal ?_
  refine wp_region_held_drew (S := fun w' => (w'.cell? ⟨N, 0, none⟩ = some (.int .i64 ck) ∧ w'.cell? ⟨N, 1, none⟩ = some (.int .i64 rt) ∧ w'.cell? ⟨N, 2, none⟩ = some (.bool true) ∧ w'.cell? ⟨N, 3, none⟩ = some (.slice a0 p0.length c0) ∧ w'.cell? ⟨N, 4, none⟩ = some (.slice a1 p1.length c1) ∧ w'.cell? ⟨N, 5, none⟩ = some (.int .i64 p2) ∧ w'.cell? ⟨N, 6, none⟩ = some (.int .i64 p3) ∧ w'.cell? ⟨N, 7, none⟩ = some (.int .i64 p4) ∧ w'.cell? ⟨N, 8, none⟩ = some (.int .i64 be) ∧ w'.cell? ⟨N, 9, none⟩ = some (.int .i64 en) ∧ w'.cell? ⟨N, 10, none⟩ = some (.slice ai items.length ci)) ∧ w'.cell? ⟨T, 0, none⟩ = some (.slice a0 p0.length c0) ∧ w'.cell? ⟨T, 1, none⟩ = some (.slice a1 p1.length c1) ∧ w'.cell? ⟨T, 2, none⟩ = some (.int .i64 p2) ∧ w'.cell? ⟨T, 3, none⟩ = some (.int .i64 p3) ∧ w'.cell? ⟨T, 4, none⟩ = some (.int .i64 p4) ∧ w'.cell? ⟨T, 5, none⟩ = some (.int .i64 be) ∧ w'.cell? ⟨T, 6, none⟩ = some (.int .i64 ck) ∧ w'.cell? ⟨T, 7, none⟩ = some (.bool false)) (by kernel_rfl) (CELL.out _ V0.out V3.out) (fun hHeld => ?_)
  obtain ⟨wd, hwd⟩ : ∃ wd, wx.drew = wd := ⟨_, rfl⟩
  have bd : Below wx.heap.size wx wd := by rw [← hwd]; exact (Below.refl _ wx).drew
  rw [hwd] at hHeld ⊢
  clear hwd
  refine tk 0 rfl (by kernel_rfl) hHeld (fun _ _ _ h => h) (v := ?_) ?_ ?_
  rotate_left 1
  · (intro w hSw; (try dsimp only at hSw); (try simp only [List.getElem_toArray, List.getElem_cons_succ, List.getElem_cons_zero]); go_simp) <;> (with_reducible rfl)
  try simp only [List.getElem_toArray, List.getElem_cons_succ, List.getElem_cons_zero, Act.put, List.setIfInBounds_toArray, List.set_cons_zero, List.set_cons_succ]
  refine tk 3 rfl (by kernel_rfl) hHeld (fun _ _ _ h => h) (v := ?_) ?_ ?_
  rotate_left 1
  · (intro w hSw; (try dsimp only at hSw); (try simp only [List.getElem_toArray, List.getElem_cons_succ, List.getElem_cons_zero]); go_simp) <;> (with_reducible rfl)
  try simp only [List.getElem_toArray, List.getElem_cons_succ, List.getElem_cons_zero, Act.put, List.setIfInBounds_toArray, List.set_cons_zero, List.set_cons_succ]
  refine wpAnyH_ready (rs := [1]) (by kernel_rfl) (by simp) (AllReadyH.cons rfl (fun K hK => ?_) AllReadyH.nil)
  simp only [List.getElem_toArray, List.getElem_cons_succ, List.getElem_cons_zero]
  go_simp
  go_at_call 43
  refine (SI.out wd).mono ?_
  rintro e w2 ⟨rfl, b2⟩
  try go_wp2_with fail
  have bd2 := bd.trans (b2.mono bd.size)
  refine hK.out _ _ (CELL.out _ (FAR.out _ bd2).2.1 (FAR.out _ bd2).1) (fun hHeld => ?_)
  clear hK K
  try simp only [List.getElem_toArray, List.getElem_cons_succ, List.getElem_cons_zero, Act.put, List.setIfInBounds_toArray, List.set_cons_zero, List.set_cons_succ]
  simp only [Q.Qm.silent]
  refine wpAnyH_ready (rs := [2]) (by kernel_rfl) (by simp) (AllReadyH.cons rfl (fun K hK => ?_) AllReadyH.nil)
  simp only [List.getElem_toArray, List.getElem_cons_succ, List.getElem_cons_zero]
  go_simp
  go_at_call 38
  refine (ST.out w2 (FAR.out _ bd2).2.2.2.2).mono ?_
  rintro e w4 ⟨⟨ck5, rt5, sp5, ⟨⟨x0, x1, x2, x3, x4⟩, h0, i0, h1, i1⟩, be5, en5, it5, ai5, ci5⟩, rfl, e5, m5, b4⟩
  have E5 := Lib.hid e5
  clear e5
  try go_wp2_with fail
  have bd4 := bd2.trans (b4.mono bd2.size)
  refine hK.out _ _ (CELL.out _ (FAR.out _ bd4).2.1 (FAR.out _ bd4).1) (fun hHeld => ?_)
  clear hK K
  try simp only [List.getElem_toArray, List.getElem_cons_succ, List.getElem_cons_zero, Act.put, List.setIfInBounds_toArray, List.set_cons_zero, List.set_cons_succ]
  simp only [Q.Qm.cells]
  obtain ⟨VT4, VQ4, VR4, VS4, B4⟩ := FAR.out _ bd4
  have s4 := bd4.size
  clear b2 b4 bd bd2 SI ST FAR
  refine wpAnyH_ready (rs := [4]) (by kernel_rfl) (by simp) (AllReadyH.cons rfl (fun K hK => ?_) AllReadyH.nil)
  refine step_store_blk rfl 28 (.tmp 2) (.tmp 20) rfl (N + 1) 0 #[.int .i64 ck5, .int .i64 rt5, .bool sp5, .slice h0 x0.length i0, .slice h1 x1.length i1, .int .i64 x2, .int .i64 x3, .int .i64 x4, .int .i64 be5, .int .i64 en5, .slice ai5 it5.length ci5] (Q.new 0 0) 28 rfl rfl VR4 (by simp) HIQ.out (by simp [Value.oneCell']) ?_
  intro w6 hv6 hg6
  have hc6 : (putAt (Q.new 0 0).toList 0 (#[.int .i64 ck5, .int .i64 rt5, .bool sp5, .slice h0 x0.length i0, .slice h1 x1.length i1, .int .i64 x2, .int .i64 x3, .int .i64 x4, .int .i64 be5, .int .i64 en5, .slice ai5 it5.length ci5] : Array Value).toList).toArray = #[.int .i64 ck5, .int .i64 rt5, .bool sp5, .slice h0 x0.length i0, .slice h1 x1.length i1, .int .i64 x2, .int .i64 x3, .int .i64 x4, .int .i64 be5, .int .i64 en5, .slice ai5 it5.length ci5] := by simp [putAt]
  rw [hc6] at hv6
  have VT6 := (hg6.block T (by omega) (by simp; omega)).trans VT4
  have VQ6 := (hg6.block N (by omega) (by simp)).trans VQ4
  have VS6 := (hg6.block (N + 1 + 1) (by omega) (by simp)).trans VS4
  have s6 := hg6.size
  refine hK.out _ _ (CELL.out _ VQ6 VT6) (fun hHeld => ?_)
  clear hK K
  try simp only [List.getElem_toArray, List.getElem_cons_succ, List.getElem_cons_zero, Act.put, List.setIfInBounds_toArray, List.set_cons_zero, List.set_cons_succ]
  refine wpAnyH_ready (rs := [5]) (by kernel_rfl) (by simp) (AllReadyH.cons rfl (fun K hK => ?_) AllReadyH.nil)
  refine step_store_blk rfl 38 (.tmp 3) (.tmp 21) rfl (N + 1 + 1) 0 #[.slice a0 p0.length c0, .slice a1 p1.length c1, .int .i64 p2, .int .i64 p3, .int .i64 p4, .int .i64 be, .int .i64 ck, .bool false] #[.slice none 0 0, .slice none 0 0, .int .i64 0, .int .i64 0, .int .i64 0, .int .i64 0, .int .i64 0, .bool false] 38 rfl rfl VS6 (by simp) HIS.out (by simp [Value.oneCell']) ?_
  intro w7 hv7 hg7
  have hc7 : (putAt (#[.slice none 0 0, .slice none 0 0, .int .i64 0, .int .i64 0, .int .i64 0, .int .i64 0, .int .i64 0, .bool false] : Array Value).toList 0 (#[.slice a0 p0.length c0, .slice a1 p1.length c1, .int .i64 p2, .int .i64 p3, .int .i64 p4, .int .i64 be, .int .i64 ck, .bool false] : Array Value).toList).toArray = #[.slice a0 p0.length c0, .slice a1 p1.length c1, .int .i64 p2, .int .i64 p3, .int .i64 p4, .int .i64 be, .int .i64 ck, .bool false] := by simp [putAt]
  rw [hc7] at hv7
  have VT7 := (hg7.block T (by omega) (by simp; omega)).trans VT6
  have VQ7 := (hg7.block N (by omega) (by simp; omega)).trans VQ6
  have hv6' := (hg7.block (N + 1) (by omega) (by simp)).trans hv6
  refine hK.out _ _ (CELL.out _ VQ7 VT7) (fun hHeld => ?_)
  clear hK K
  try simp only [List.getElem_toArray, List.getElem_cons_succ, List.getElem_cons_zero, Act.put, List.setIfInBounds_toArray, List.set_cons_zero, List.set_cons_succ]
  refine tk 6 rfl (by kernel_rfl) hHeld (fun _ _ _ h => h) (v := ?_) ?_ ?_
  rotate_left 1
  · (intro w hSw; (try dsimp only at hSw); (try simp only [List.getElem_toArray, List.getElem_cons_succ, List.getElem_cons_zero]); go_simp) <;> (with_reducible rfl)
  try simp only [List.getElem_toArray, List.getElem_cons_succ, List.getElem_cons_zero, Act.put, List.setIfInBounds_toArray, List.set_cons_zero, List.set_cons_succ]
  refine wpAnyH_done (by kernel_rfl) ?_ _
  have m6 := m5.far VR4 hg6 (by omega) (by omega)
  have b7 : Below N w6 w7 := Q.below_turn (by omega) hg7 (fun r e => by injection e with e; omega)
  have m7 : Q.QMix w7 N ⟨ck5, rt5, sp5, ⟨⟨x0, x1, x2, x3, x4⟩, h0, i0, h1, i1⟩, be5, en5, it5, ai5, ci5⟩ := ⟨m6.cur.below b7 (Nat.le_refl _), fun m hm => (m6.el m hm).below b7 (Nat.le_refl _), m6.row.elim (fun r => .inl (r.below b7 (Nat.le_refl _))) (fun r => .inr (own_far r VS6 (by decide) hg7)), m6.hi⟩
  have B7 := (B4.trans (Q.below_turn (by omega) hg6 (fun r e => by injection e with e; omega))).trans b7
  have s7 := hg7.size
  have VR7 := Lib.hid hv6'
  have VS7 := Lib.hid hv7
  have M7 := Lib.hid (m7.qin (by omega))
  have CU7 := Lib.hid ((HCU.out.below B7 hB).more (B' := w7.heap.size) (by omega))
  replace B7 := Lib.hid B7
  clear hHeld VT4 VQ4 VR4 VS4 B4 VT6 VQ6 VS6 VT7 VQ7 hv6 hv6' hv7 hg6 hg7 hc6 hc7 m5 m6 m7 b7
  go_wp2_with fail
  have vr7 := VR7.out
  have vs7 := VS7.out
  have r0 := cell_of_block_ (i := 0) vr7
  have r1 := cell_of_block_ (i := 1) vr7
  have r2 := cell_of_block_ (i := 2) vr7
  have r3 := cell_of_block_ (i := 3) vr7
  have r4 := cell_of_block_ (i := 4) vr7
  have r5 := cell_of_block_ (i := 5) vr7
  have r6 := cell_of_block_ (i := 6) vr7
  have r7 := cell_of_block_ (i := 7) vr7
  have r8 := cell_of_block_ (i := 8) vr7
  have r9 := cell_of_block_ (i := 9) vr7
  have r10 := cell_of_block_ (i := 10) vr7
  simp at r0 r1 r2 r3 r4 r5 r6 r7 r8 r9 r10
  have t0 := cell_of_block_ (i := 0) vs7
  have t1 := cell_of_block_ (i := 1) vs7
  have t2 := cell_of_block_ (i := 2) vs7
  have t3 := cell_of_block_ (i := 3) vs7
  have t4 := cell_of_block_ (i := 4) vs7
  have t5 := cell_of_block_ (i := 5) vs7
  have t6 := cell_of_block_ (i := 6) vs7
  have t7 := cell_of_block_ (i := 7) vs7
  simp at t0 t1 t2 t3 t4 t5 t6 t7
  exact bodyPost_ret (v := .tuple #[.agg #[.int .i64 ck5, .int .i64 rt5, .bool sp5, .slice h0 x0.length i0, .slice h1 x1.length i1, .int .i64 x2, .int .i64 x3, .int .i64 x4, .int .i64 be5, .int .i64 en5, .slice ai5 it5.length ci5], .agg #[.slice a0 p0.length c0, .slice a1 p1.length c1, .int .i64 p2, .int .i64 p3, .int .i64 p4, .int .i64 be, .int .i64 ck, .bool false], .int .i64 0]) (by simp [results, Try.results19, go_sem, r0, r1, r2, r3, r4, r5, r6, r7, r8, r9, r10, t0, t1, t2, t3, t4, t5, t6, t7]) rfl ⟨⟨ck5, rt5, sp5, ⟨⟨x0, x1, x2, x3, x4⟩, h0, i0, h1, i1⟩, be5, en5, it5, ai5, ci5⟩, ⟨⟨⟨p0, p1, p2, p3, p4⟩, a0, c0, a1, c1⟩, be, ck, false⟩, rfl, E5.out, rfl, M7.out, CU7.out, by rw [HN.out]; exact B7.out⟩
end Go.Proofs.Ytfjkelngdljikaa
