/-
  The walks of layer 44: Interrupt, ours and the reference's. By an AI agent.
-/
import Derived.Deep.DeepCutAuto
import Derived.Test.YtfjkelngdljikaaAe
import Derived.Test.YtfjkelngdljikaaRt
import Derived.Test.YtfjkelngdljikaaRr
namespace Go.Proofs.Ytfjkelngdljikaa
set_option linter.unusedVariables false
set_option linter.unusedSimpArgs false
open Go.RowKit Go.Joins Go.Deep

/-- Nothing was said. -/
def Q.sz : Q.Sa := ⟨Q.zero, 0, 0, false⟩
theorem Q.iin_zero {w w' : World} (n : Int) (hb : Below w.heap.size w w') : Q.IIn Q.qz Q.sz n w w' (.returned (.tuple #[.agg (Q.new 0 0), .agg #[.slice none 0 0, .slice none 0 0, .int .i64 0, .int .i64 0, .int .i64 0, .int .i64 0, .int .i64 0, .bool false], .int .i64 n])) :=
  ⟨⟨0, 0, false, ⟨Q.zero, none, 0, none, 0⟩, 0, 0, [], none, 0⟩, ⟨⟨Q.zero, none, 0, none, 0⟩, 0, 0, false⟩, rfl, rfl, rfl, ⟨Q.zero_in _ _, ⟨Reads.none_, fun m hm => by cases hm⟩, Nat.le_refl _⟩, Q.zero_in _ _, hb⟩
theorem infoS8 : (Try.prog.info? 38).map (·.size) = some (8 : Nat) := by kernel_rfl
theorem new_block (w : World) (C : Array Value) (t : TypeId) {n : Nat} (h : w.heap.size = n) : (w.alloc (.cells C t)).heap[n]? = some (.cells C t (0, 0)) := by
  rw [← h]; exact heap_alloc_new w _
theorem wp_cut {P : Program} {c : Code} {K : Act → World → Prop} {Q : Exit → Act → World → Prop} {a : Act} {w : World} (R : Act → World → Prop) (h1 : c.wp P (Exit.then R (fun _ _ _ => False)) a w) (h2 : ∀ a w, R a w → K a w) : c.wp P (Exit.then K Q) a w :=
  wp_mono h1 fun e a w hh => by cases e <;> first | exact h2 _ _ hh | exact hh.elim
theorem Q.UOwn.far38 {W W' : World} {base g : Nat} {C : Array Value} {m : Q.Um} (h : Q.UOwn W base m) (hc : W.heap[g]? = some (.cells C 38 (0, 0))) (hg : W.grownBy W' (some g)) : Q.UOwn W' base m :=
  ⟨own_far h.ow hc (by decide) hg, let ⟨ys, ey, oy, gy⟩ := h.oc; ⟨ys, ey, own_far oy hc (by decide) hg, fun y hy => own_far (gy y hy) hc (by decide) hg⟩⟩

set_option maxRecDepth 100000 in
set_option maxHeartbeats 2000000 in
theorem inter_none (q : Q.Qm) (w : World) (hs : q.sp = false) : Calls Try.prog 18 #[.agg q.cells.toArray] w fun e w' => Q.IIn Q.qz Q.sz 8 w w' e := by
  obtain ⟨ck, rt, sp, ⟨⟨p0, p1, p2, p3, p4⟩, a0, c0, a1, c1⟩, be, en, items, ai, ci⟩ := q
  simp only at hs
  subst hs
  simp only [Q.Qm.cells]
  have b0 := Lib.hid (((below_box w (.cells #[.int .i64 ck, .int .i64 rt, .bool false, .slice a0 p0.length c0, .slice a1 p1.length c1, .int .i64 p2, .int .i64 p3, .int .i64 p4, .int .i64 be, .int .i64 en, .slice ai items.length ci] 28)).alloc (by simp) (.cells (Q.new 0 0) 28)).alloc (by simp; omega) (.cells #[.slice none 0 0, .slice none 0 0, .int .i64 0, .int .i64 0, .int .i64 0, .int .i64 0, .int .i64 0, .bool false] 38))
  have V1 := Lib.hid (heap_old2 _ (.cells #[.slice none 0 0, .slice none 0 0, .int .i64 0, .int .i64 0, .int .i64 0, .int .i64 0, .int .i64 0, .bool false] 38) (new_block (w.alloc (.cells #[.int .i64 ck, .int .i64 rt, .bool false, .slice a0 p0.length c0, .slice a1 p1.length c1, .int .i64 p2, .int .i64 p3, .int .i64 p4, .int .i64 be, .int .i64 en, .slice ai items.length ci] 28)) (Q.new 0 0) 28 (World.size_alloc _ _)))
  have V2 := Lib.hid (new_block ((w.alloc (.cells #[.int .i64 ck, .int .i64 rt, .bool false, .slice a0 p0.length c0, .slice a1 p1.length c1, .int .i64 p2, .int .i64 p3, .int .i64 p4, .int .i64 be, .int .i64 en, .slice ai items.length ci] 28)).alloc (.cells (Q.new 0 0) 28)) #[.slice none 0 0, .slice none 0 0, .int .i64 0, .int .i64 0, .int .i64 0, .int .i64 0, .int .i64 0, .bool false] 38 (n := w.heap.size + 1 + 1) (by simp))
  have HIQ := Lib.hid infoQ
  have HIS := Lib.hid infoS8
  go_enter Try.func18, Try.ntmps18
  go_wp2_with (first
    | (refine wpList_store_blk rfl 28 (.tmp 2) (.tmp 10) rfl (w.heap.size + 1) 0 (Q.new 0 0) (Q.new 0 0) 28 ?hx ?hy ?hv (by simp) HIQ.out (by simp [Value.oneCell']) ?_; (case hx => rfl); (case hy => rfl); (case hv => exact V1.out); intro w8 hv8 hg8; (simp [putAt] at hv8); (have V28 := (hg8.block (w.heap.size + 1 + 1) (by simp) (by simp)).trans V2.out); (have b8 := b0.out.trans (below_of_only hg8 (Nat.le_succ _) (by simp; omega))); (have s8 : w.heap.size + 3 ≤ w8.heap.size := Nat.le_trans (by simp) hg8.size))
    | (refine wpList_store_blk rfl 38 (.tmp 3) (.tmp 11) rfl (w.heap.size + 1 + 1) 0 #[.slice none 0 0, .slice none 0 0, .int .i64 0, .int .i64 0, .int .i64 0, .int .i64 0, .int .i64 0, .bool false] #[.slice none 0 0, .slice none 0 0, .int .i64 0, .int .i64 0, .int .i64 0, .int .i64 0, .int .i64 0, .bool false] 38 ?hx ?hy ?hv (by simp) HIS.out (by simp [Value.oneCell']) ?_; (case hx => rfl); (case hy => rfl); (case hv => exact V28); intro w9 hv9 hg9; (simp [putAt] at hv9)))
  have hv8' := (hg9.block (w.heap.size + 1) (by omega) (by simp)).trans hv8
  have r0 := cell_of_block_ (i := 0) hv8'
  have r1 := cell_of_block_ (i := 1) hv8'
  have r2 := cell_of_block_ (i := 2) hv8'
  have r3 := cell_of_block_ (i := 3) hv8'
  have r4 := cell_of_block_ (i := 4) hv8'
  have r5 := cell_of_block_ (i := 5) hv8'
  have r6 := cell_of_block_ (i := 6) hv8'
  have r7 := cell_of_block_ (i := 7) hv8'
  have r8 := cell_of_block_ (i := 8) hv8'
  have r9 := cell_of_block_ (i := 9) hv8'
  have r10 := cell_of_block_ (i := 10) hv8'
  simp at r0 r1 r2 r3 r4 r5 r6 r7 r8 r9 r10
  have s0 := cell_of_block_ (i := 0) hv9
  have s1 := cell_of_block_ (i := 1) hv9
  have s2 := cell_of_block_ (i := 2) hv9
  have s3 := cell_of_block_ (i := 3) hv9
  have s4 := cell_of_block_ (i := 4) hv9
  have s5 := cell_of_block_ (i := 5) hv9
  have s6 := cell_of_block_ (i := 6) hv9
  have s7 := cell_of_block_ (i := 7) hv9
  simp at s0 s1 s2 s3 s4 s5 s6 s7
  have b9 := b8.trans (below_of_only hg9 (by omega) (by omega))
  exact bodyPost_ret (v := .tuple #[.agg (Q.new 0 0), .agg #[.slice none 0 0, .slice none 0 0, .int .i64 0, .int .i64 0, .int .i64 0, .int .i64 0, .int .i64 0, .bool false], .int .i64 8]) (by simp [results, Try.results18, go_sem, r0, r1, r2, r3, r4, r5, r6, r7, r8, r9, r10, s0, s1, s2, s3, s4, s5, s6, s7]) rfl (Q.iin_zero _ b9)

set_option maxRecDepth 100000 in
set_option maxHeartbeats 2000000 in
theorem refinter_none (q : Q.Qm) (w : World) (hs : q.sp = false) : Calls Try.prog 19 #[.agg q.cells.toArray] w fun e w' => Q.IIn Q.qz Q.sz 8 w w' e := by
  obtain ⟨ck, rt, sp, ⟨⟨p0, p1, p2, p3, p4⟩, a0, c0, a1, c1⟩, be, en, items, ai, ci⟩ := q
  simp only at hs
  subst hs
  simp only [Q.Qm.cells]
  have b0 := Lib.hid (((below_box w (.cells #[.int .i64 ck, .int .i64 rt, .bool false, .slice a0 p0.length c0, .slice a1 p1.length c1, .int .i64 p2, .int .i64 p3, .int .i64 p4, .int .i64 be, .int .i64 en, .slice ai items.length ci] 28)).alloc (by simp) (.cells (Q.new 0 0) 28)).alloc (by simp; omega) (.cells #[.slice none 0 0, .slice none 0 0, .int .i64 0, .int .i64 0, .int .i64 0, .int .i64 0, .int .i64 0, .bool false] 38))
  have V1 := Lib.hid (heap_old2 _ (.cells #[.slice none 0 0, .slice none 0 0, .int .i64 0, .int .i64 0, .int .i64 0, .int .i64 0, .int .i64 0, .bool false] 38) (new_block (w.alloc (.cells #[.int .i64 ck, .int .i64 rt, .bool false, .slice a0 p0.length c0, .slice a1 p1.length c1, .int .i64 p2, .int .i64 p3, .int .i64 p4, .int .i64 be, .int .i64 en, .slice ai items.length ci] 28)) (Q.new 0 0) 28 (World.size_alloc _ _)))
  have V2 := Lib.hid (new_block ((w.alloc (.cells #[.int .i64 ck, .int .i64 rt, .bool false, .slice a0 p0.length c0, .slice a1 p1.length c1, .int .i64 p2, .int .i64 p3, .int .i64 p4, .int .i64 be, .int .i64 en, .slice ai items.length ci] 28)).alloc (.cells (Q.new 0 0) 28)) #[.slice none 0 0, .slice none 0 0, .int .i64 0, .int .i64 0, .int .i64 0, .int .i64 0, .int .i64 0, .bool false] 38 (n := w.heap.size + 1 + 1) (by simp))
  have HIQ := Lib.hid infoQ
  have HIS := Lib.hid infoS8
  go_enter Try.func19, Try.ntmps19
  go_wp2_with (first
    | (refine wpList_store_blk rfl 28 (.tmp 2) (.tmp 9) rfl (w.heap.size + 1) 0 (Q.new 0 0) (Q.new 0 0) 28 ?hx ?hy ?hv (by simp) HIQ.out (by simp [Value.oneCell']) ?_; (case hx => rfl); (case hy => rfl); (case hv => exact V1.out); intro w8 hv8 hg8; (simp [putAt] at hv8); (have V28 := (hg8.block (w.heap.size + 1 + 1) (by simp) (by simp)).trans V2.out); (have b8 := b0.out.trans (below_of_only hg8 (Nat.le_succ _) (by simp; omega))); (have s8 : w.heap.size + 3 ≤ w8.heap.size := Nat.le_trans (by simp) hg8.size))
    | (refine wpList_store_blk rfl 38 (.tmp 3) (.tmp 10) rfl (w.heap.size + 1 + 1) 0 #[.slice none 0 0, .slice none 0 0, .int .i64 0, .int .i64 0, .int .i64 0, .int .i64 0, .int .i64 0, .bool false] #[.slice none 0 0, .slice none 0 0, .int .i64 0, .int .i64 0, .int .i64 0, .int .i64 0, .int .i64 0, .bool false] 38 ?hx ?hy ?hv (by simp) HIS.out (by simp [Value.oneCell']) ?_; (case hx => rfl); (case hy => rfl); (case hv => exact V28); intro w9 hv9 hg9; (simp [putAt] at hv9)))
  have hv8' := (hg9.block (w.heap.size + 1) (by omega) (by simp)).trans hv8
  have r0 := cell_of_block_ (i := 0) hv8'
  have r1 := cell_of_block_ (i := 1) hv8'
  have r2 := cell_of_block_ (i := 2) hv8'
  have r3 := cell_of_block_ (i := 3) hv8'
  have r4 := cell_of_block_ (i := 4) hv8'
  have r5 := cell_of_block_ (i := 5) hv8'
  have r6 := cell_of_block_ (i := 6) hv8'
  have r7 := cell_of_block_ (i := 7) hv8'
  have r8 := cell_of_block_ (i := 8) hv8'
  have r9 := cell_of_block_ (i := 9) hv8'
  have r10 := cell_of_block_ (i := 10) hv8'
  simp at r0 r1 r2 r3 r4 r5 r6 r7 r8 r9 r10
  have s0 := cell_of_block_ (i := 0) hv9
  have s1 := cell_of_block_ (i := 1) hv9
  have s2 := cell_of_block_ (i := 2) hv9
  have s3 := cell_of_block_ (i := 3) hv9
  have s4 := cell_of_block_ (i := 4) hv9
  have s5 := cell_of_block_ (i := 5) hv9
  have s6 := cell_of_block_ (i := 6) hv9
  have s7 := cell_of_block_ (i := 7) hv9
  simp at s0 s1 s2 s3 s4 s5 s6 s7
  have b9 := b8.trans (below_of_only hg9 (by omega) (by omega))
  exact bodyPost_ret (v := .tuple #[.agg (Q.new 0 0), .agg #[.slice none 0 0, .slice none 0 0, .int .i64 0, .int .i64 0, .int .i64 0, .int .i64 0, .int .i64 0, .bool false], .int .i64 8]) (by simp [results, Try.results19, go_sem, r0, r1, r2, r3, r4, r5, r6, r7, r8, r9, r10, s0, s1, s2, s3, s4, s5, s6, s7]) rfl (Q.iin_zero _ b9)

set_option maxRecDepth 100000 in
set_option maxHeartbeats 4000000 in
theorem inter_any (q : Q.Qm) (B : Nat) (w : World) (h : Q.QIn w B q) (hB : B ≤ w.heap.size) (hsml : q.a.Sml) (hchk : Q.chk q.a = 0) (hs : q.sp = true) :
    Calls Try.prog 18 #[.agg q.cells.toArray] w fun e w' => Q.IIn (Q.inter q.a) ⟨q.cur.u, q.be, q.clock, false⟩ 0 w w' e := by
  have CK := fun (W : World) (hw : Below w.heap.size w W) => check_any q B W (h.items.row.below hw hB) (Nat.le_trans hB hw.size) (by have := hsml.1; simp only [Q.Qm.a, List.length_map] at this; unfold maxLen; omega) (fun m hm => by have := hsml.2.2 m.u (List.mem_map.2 ⟨m, hm, rfl⟩); have h1 := this.1; have h2 := this.2.1; unfold maxLen; omega) (by have := hsml.2.1.1; simp only [Q.Qm.a] at this; unfold maxLen; omega) (by have := hsml.2.1.2.1; simp only [Q.Qm.a] at this; unfold maxLen; omega)
  rw [hchk] at CK
  have CP := fun (W : World) (hw : Below w.heap.size w W) => copied_own q.cur B W (h.cur.below hw hB) (Nat.le_trans hB hw.size) hsml.2.1.cp
  have hcl := Q.chk_clock0 hchk
  have ST := fun (W : World) (hw : Below w.heap.size w W) => settled_any q.silent B W ((h.below hw hB).silent) (Nat.le_trans hB hw.size) (by have := hsml.1; simp only [Q.Qm.a, List.length_map] at this; simp only [Q.Qm.silent]; unfold maxLen; omega) (fun u r e => Q.Small.ready (hsml.2.2 u (by rw [show q.a.items = q.silent.a.items from rfl, e]; simp)) hcl.1 (Int.le_trans hcl.2 (by decide)))
  have OW := fun (q4 : Q.Qm) (W : World) (h4 : Q.QIn W B q4) (hw : Below w.heap.size w W) (e4 : q4.a = q.silent.a.settled) => own_any q4 B W h4 (Nat.le_trans hB hw.size) (by rw [e4]; exact (Q.settled_sml (Q.silent_sml hsml)).cp)
  have SI := fun (W : World) => silent_any q W
  obtain ⟨ck, rt, sp, ⟨⟨p0, p1, p2, p3, p4⟩, a0, c0, a1, c1⟩, be, en, items, ai, ci⟩ := q
  simp only at hs
  subst hs
  simp only [Q.Qm.cells, Q.Um.cells] at CK CP SI ST OW ⊢
  have b0 := ((below_box w (.cells #[.int .i64 ck, .int .i64 rt, .bool true, .slice a0 p0.length c0, .slice a1 p1.length c1, .int .i64 p2, .int .i64 p3, .int .i64 p4, .int .i64 be, .int .i64 en, .slice ai items.length ci] 28)).alloc (by simp) (.cells (Q.new 0 0) 28)).alloc (by simp; omega) (.cells #[.slice none 0 0, .slice none 0 0, .int .i64 0, .int .i64 0, .int .i64 0, .int .i64 0, .int .i64 0, .bool false] 38)
  have V0 := heap_old2 _ (.cells #[.slice none 0 0, .slice none 0 0, .int .i64 0, .int .i64 0, .int .i64 0, .int .i64 0, .int .i64 0, .bool false] 38) (heap_old2 (w.alloc (.cells #[.int .i64 ck, .int .i64 rt, .bool true, .slice a0 p0.length c0, .slice a1 p1.length c1, .int .i64 p2, .int .i64 p3, .int .i64 p4, .int .i64 be, .int .i64 en, .slice ai items.length ci] 28)) (.cells (Q.new 0 0) 28) (heap_alloc_new w _))
  have V1 := heap_old2 _ (.cells #[.slice none 0 0, .slice none 0 0, .int .i64 0, .int .i64 0, .int .i64 0, .int .i64 0, .int .i64 0, .bool false] 38) (new_block (w.alloc (.cells #[.int .i64 ck, .int .i64 rt, .bool true, .slice a0 p0.length c0, .slice a1 p1.length c1, .int .i64 p2, .int .i64 p3, .int .i64 p4, .int .i64 be, .int .i64 en, .slice ai items.length ci] 28)) (Q.new 0 0) 28 (World.size_alloc _ _))
  have V2 := new_block ((w.alloc (.cells #[.int .i64 ck, .int .i64 rt, .bool true, .slice a0 p0.length c0, .slice a1 p1.length c1, .int .i64 p2, .int .i64 p3, .int .i64 p4, .int .i64 be, .int .i64 en, .slice ai items.length ci] 28)).alloc (.cells (Q.new 0 0) 28)) #[.slice none 0 0, .slice none 0 0, .int .i64 0, .int .i64 0, .int .i64 0, .int .i64 0, .int .i64 0, .bool false] 38 (n := w.heap.size + 1 + 1) (by simp)
  have HIQ := Lib.hid infoQ
  have HIS := Lib.hid infoS8
  replace CK := Lib.hid CK
  replace CP := Lib.hid CP
  replace SI := Lib.hid SI
  replace ST := Lib.hid ST
  replace OW := Lib.hid OW
  replace b0 := Lib.hid b0
  replace V0 := Lib.hid V0
  replace V1 := Lib.hid V1
  replace V2 := Lib.hid V2
  clear h hsml hchk hcl
  go_enter Try.func18, Try.ntmps18
  go_wp2_with (go_at_call 17; refine (CK.out _ b0.out).mono ?_; clear CK; rintro e w1 ⟨rfl, bb⟩; (have B1 := Lib.hid (b0.out.trans (bb.mono b0.out.size))); (have VQ1 := Lib.hid ((bb.block w.heap.size (by simp; omega)).trans V0.out)); (have VR1 := Lib.hid ((bb.block (w.heap.size + 1) (by simp)).trans V1.out)); (have VS1 := Lib.hid ((bb.block (w.heap.size + 1 + 1) (by simp)).trans V2.out)); (have s1 : w.heap.size + 3 ≤ w1.heap.size := by have := bb.size; simp at this; omega); clear bb b0 V0 V1 V2)
  obtain ⟨N, hN⟩ : ∃ N, w.heap.size = N := ⟨_, rfl⟩
  have HN := Lib.hid hN
  rw [hN] at hB B1 VQ1 VR1 VS1 s1 CP ST OW ⊢
  clear hN
  refine wp_cut (fun a' wx => ∃ (v19 v20 v21 v22 v23 v24 v25 v26 : Value) (T : Nat) (m : Q.Um), m.u = ⟨p0, p1, p2, p3, p4⟩ ∧ Q.UOwn wx (N + 3) m ∧ wx.heap[T]? = some (.cells (Q.Sm.cells ⟨m, be, ck, false⟩).toArray 38 (0, 0)) ∧ N + 3 ≤ T ∧ wx.heap[N]? = some (.cells #[.int .i64 ck, .int .i64 rt, .bool true, .slice a0 p0.length c0, .slice a1 p1.length c1, .int .i64 p2, .int .i64 p3, .int .i64 p4, .int .i64 be, .int .i64 en, .slice ai items.length ci] 28 (0, 0)) ∧ wx.heap[N + 1]? = some (.cells (Q.new 0 0) 28 (0, 0)) ∧ wx.heap[N + 1 + 1]? = some (.cells #[.slice none 0 0, .slice none 0 0, .int .i64 0, .int .i64 0, .int .i64 0, .int .i64 0, .int .i64 0, .bool false] 38 (0, 0)) ∧ Below N w wx ∧ a' = { tmps := #[.agg #[.int .i64 ck, .int .i64 rt, .bool true, .slice a0 p0.length c0, .slice a1 p1.length c1, .int .i64 p2, .int .i64 p3, .int .i64 p4, .int .i64 be, .int .i64 en, .slice ai items.length ci], .pointer (some ⟨N, 0, none⟩), .pointer (some ⟨N + 1, 0, none⟩), .pointer (some ⟨N + 1 + 1, 0, none⟩), .int .i64 0, .int .i64 0, .pointer (some ⟨T, 0, none⟩), .pointer (some ⟨N, 2, none⟩), .bool true, .bool false, undef, undef, .agg #[.int .i64 ck, .int .i64 rt, .bool true, .slice a0 p0.length c0, .slice a1 p1.length c1, .int .i64 p2, .int .i64 p3, .int .i64 p4, .int .i64 be, .int .i64 en, .slice ai items.length ci], .int .i64 0, .int .i64 0, .bool false, undef, undef, undef, v19, v20, v21, v22, v23, v24, v25, v26, undef, undef, undef, undef, undef], defers := [] }) ?first ?rest
  case first =>
    clear ST OW SI
    have CELL : Hid (∀ W' : World, W'.heap[N]? = some (.cells #[.int .i64 ck, .int .i64 rt, .bool true, .slice a0 p0.length c0, .slice a1 p1.length c1, .int .i64 p2, .int .i64 p3, .int .i64 p4, .int .i64 be, .int .i64 en, .slice ai items.length ci] 28 (0, 0)) → (W'.cell? ⟨N, 0, none⟩ = some (.int .i64 ck) ∧ W'.cell? ⟨N, 3, none⟩ = some (.slice a0 p0.length c0) ∧ W'.cell? ⟨N, 4, none⟩ = some (.slice a1 p1.length c1) ∧ W'.cell? ⟨N, 5, none⟩ = some (.int .i64 p2) ∧ W'.cell? ⟨N, 6, none⟩ = some (.int .i64 p3) ∧ W'.cell? ⟨N, 7, none⟩ = some (.int .i64 p4) ∧ W'.cell? ⟨N, 8, none⟩ = some (.int .i64 be))) := Lib.hid (fun W' h9 => by
      have r0 := cell_of_block_ (i := 0) h9
      have r1 := cell_of_block_ (i := 1) h9
      have r2 := cell_of_block_ (i := 2) h9
      have r3 := cell_of_block_ (i := 3) h9
      have r4 := cell_of_block_ (i := 4) h9
      have r5 := cell_of_block_ (i := 5) h9
      have r6 := cell_of_block_ (i := 6) h9
      have r7 := cell_of_block_ (i := 7) h9
      have r8 := cell_of_block_ (i := 8) h9
      have r9 := cell_of_block_ (i := 9) h9
      have r10 := cell_of_block_ (i := 10) h9
      simp at r0 r1 r2 r3 r4 r5 r6 r7 r8 r9 r10
      exact ⟨r0, r3, r4, r5, r6, r7, r8⟩)
    refine wp_region_held_drew (S := fun w' => w'.cell? ⟨N, 0, none⟩ = some (.int .i64 ck) ∧ w'.cell? ⟨N, 3, none⟩ = some (.slice a0 p0.length c0) ∧ w'.cell? ⟨N, 4, none⟩ = some (.slice a1 p1.length c1) ∧ w'.cell? ⟨N, 5, none⟩ = some (.int .i64 p2) ∧ w'.cell? ⟨N, 6, none⟩ = some (.int .i64 p3) ∧ w'.cell? ⟨N, 7, none⟩ = some (.int .i64 p4) ∧ w'.cell? ⟨N, 8, none⟩ = some (.int .i64 be)) (by kernel_rfl) (CELL.out _ VQ1.out) (fun hHeld => ?_)
    obtain ⟨wd, hwd⟩ : ∃ wd, w1.drew = wd := ⟨_, rfl⟩
    have bd : Below w1.heap.size w1 wd := by rw [← hwd]; exact (Below.refl _ w1).drew
    rw [hwd] at hHeld ⊢
    have BD : Hid (Below N w wd) := Lib.hid (B1.out.trans (bd.mono (by omega)))
    have VQ := Lib.hid ((bd.block N (by omega)).trans VQ1.out)
    have VR := Lib.hid ((bd.block (N + 1) (by omega)).trans VR1.out)
    have VS := Lib.hid ((bd.block (N + 1 + 1) (by omega)).trans VS1.out)
    have sd : N + 3 ≤ wd.heap.size := Nat.le_trans s1 bd.size
    clear hwd B1 VQ1 VR1 VS1 s1 bd
    refine tk 0 rfl (by kernel_rfl) hHeld (fun _ _ _ h => h) (v := ?_) ?_ ?_
    rotate_left 1
    · (intro w hSw; (try dsimp only at hSw); (try simp only [List.getElem_toArray, List.getElem_cons_succ, List.getElem_cons_zero]); go_simp) <;> (with_reducible rfl)
    try simp only [List.getElem_toArray, List.getElem_cons_succ, List.getElem_cons_zero, Act.put, List.setIfInBounds_toArray, List.set_cons_zero, List.set_cons_succ]
    refine tk 1 rfl (by kernel_rfl) hHeld (fun _ _ _ h => h) (v := ?_) ?_ ?_
    rotate_left 1
    · (intro w hSw; (try dsimp only at hSw); (try simp only [List.getElem_toArray, List.getElem_cons_succ, List.getElem_cons_zero]); go_simp) <;> (with_reducible rfl)
    try simp only [List.getElem_toArray, List.getElem_cons_succ, List.getElem_cons_zero, Act.put, List.setIfInBounds_toArray, List.set_cons_zero, List.set_cons_succ]
    refine tk 3 rfl (by kernel_rfl) hHeld (fun _ _ _ h => h) (v := ?_) ?_ ?_
    rotate_left 1
    · (intro w hSw; (try dsimp only at hSw); (try simp only [List.getElem_toArray, List.getElem_cons_succ, List.getElem_cons_zero]); go_simp) <;> (with_reducible rfl)
    try simp only [List.getElem_toArray, List.getElem_cons_succ, List.getElem_cons_zero, Act.put, List.setIfInBounds_toArray, List.set_cons_zero, List.set_cons_succ]
    refine tk 4 rfl (by kernel_rfl) hHeld (fun _ _ _ h => h) (v := ?_) ?_ ?_
    rotate_left 1
    · (intro w hSw; (try dsimp only at hSw); (try simp only [List.getElem_toArray, List.getElem_cons_succ, List.getElem_cons_zero]); go_simp) <;> (with_reducible rfl)
    try simp only [List.getElem_toArray, List.getElem_cons_succ, List.getElem_cons_zero, Act.put, List.setIfInBounds_toArray, List.set_cons_zero, List.set_cons_succ]
    refine tk 5 rfl (by kernel_rfl) hHeld (fun _ _ _ h => h) (v := ?_) ?_ ?_
    rotate_left 1
    · (intro w hSw; (try dsimp only at hSw); (try simp only [List.getElem_toArray, List.getElem_cons_succ, List.getElem_cons_zero]); go_simp) <;> (with_reducible rfl)
    try simp only [List.getElem_toArray, List.getElem_cons_succ, List.getElem_cons_zero, Act.put, List.setIfInBounds_toArray, List.set_cons_zero, List.set_cons_succ]
    refine tk 6 rfl (by kernel_rfl) hHeld (fun _ _ _ h => h) (v := ?_) ?_ ?_
    rotate_left 1
    · (intro w hSw; (try dsimp only at hSw); (try simp only [List.getElem_toArray, List.getElem_cons_succ, List.getElem_cons_zero]); go_simp) <;> (with_reducible rfl)
    try simp only [List.getElem_toArray, List.getElem_cons_succ, List.getElem_cons_zero, Act.put, List.setIfInBounds_toArray, List.set_cons_zero, List.set_cons_succ]
    refine wpAnyH_ready (rs := [2, 8]) (by kernel_rfl) (by simp) ?_
    refine AllReadyH.cons rfl (fun K hK => ?_) ?_
    · simp only [List.getElem_toArray, List.getElem_cons_succ, List.getElem_cons_zero]
      go_simp
      go_at_call 41
      refine (CP.out wd BD.out).mono ?_
      rintro e w9 ⟨⟨⟨m0, m1, m2, m3, m4⟩, f0, f1, f2, f3⟩, rfl, e9, o9, b9⟩
      have E9 := Lib.hid e9
      clear e9
      try go_wp2_with fail
      refine hK.out _ _ (CELL.out _ ((b9.block N (by omega)).trans VQ.out)) (fun hHeld => ?_)
      clear hK K
      try simp only [List.getElem_toArray, List.getElem_cons_succ, List.getElem_cons_zero, Act.put, List.setIfInBounds_toArray, List.set_cons_zero, List.set_cons_succ]
      simp only [Q.Um.cells]
      refine tk 7 rfl (by kernel_rfl) hHeld (fun _ _ _ h => h) (v := ?_) ?_ ?_
      rotate_left 1
      · (intro w hSw; (try dsimp only at hSw); (try simp only [List.getElem_toArray, List.getElem_cons_succ, List.getElem_cons_zero]); go_simp) <;> (with_reducible rfl)
      try simp only [List.getElem_toArray, List.getElem_cons_succ, List.getElem_cons_zero, Act.put, List.setIfInBounds_toArray, List.set_cons_zero, List.set_cons_succ]
      refine wpAnyH_ready (rs := [8]) (by kernel_rfl) (by simp) (AllReadyH.cons rfl (fun K hK => ?_) AllReadyH.nil)
      simp only [List.getElem_toArray, List.getElem_cons_succ, List.getElem_cons_zero]
      go_simp
      refine hK.out _ _ (CELL.out _ (heap_old2 _ _ ((b9.block N (by omega)).trans VQ.out))) (fun hHeld => ?_)
      clear hK K
      try simp only [List.getElem_toArray, List.getElem_cons_succ, List.getElem_cons_zero, Act.put, List.setIfInBounds_toArray, List.set_cons_zero, List.set_cons_succ]
      have VT := new_block w9 #[.slice none 0 0, .slice none 0 0, .int .i64 0, .int .i64 0, .int .i64 0, .int .i64 0, .int .i64 0, .bool false] 38 rfl
      have s9 : N + 3 ≤ w9.heap.size := Nat.le_trans sd b9.size
      have ba : Below w9.heap.size w9 (w9.alloc (.cells #[.slice none 0 0, .slice none 0 0, .int .i64 0, .int .i64 0, .int .i64 0, .int .i64 0, .int .i64 0, .bool false] 38)) := below_box w9 _
      have b10 := b9.trans (ba.mono b9.size)
      have OO := (o9.lower (base' := N + 3) sd).under ba
      obtain ⟨T, hT⟩ : ∃ T, w9.heap.size = T := ⟨_, rfl⟩
      have hTN : N + 3 ≤ T := by omega
      have hTd : wd.heap.size ≤ T := by have := b9.size; omega
      obtain ⟨wa, hwa⟩ : ∃ wa, w9.alloc (.cells #[.slice none 0 0, .slice none 0 0, .int .i64 0, .int .i64 0, .int .i64 0, .int .i64 0, .int .i64 0, .bool false] 38) = wa := ⟨_, rfl⟩
      rw [hwa] at VT OO b10 hHeld ⊢
      rw [hT] at VT ⊢
      clear hT hwa ba s9 b9 o9
      have hput : (putAt (#[.slice none 0 0, .slice none 0 0, .int .i64 0, .int .i64 0, .int .i64 0, .int .i64 0, .int .i64 0, .bool false] : Array Value).toList 0 (#[.slice f0 m0.length f1, .slice f2 m1.length f3, .int .i64 m2, .int .i64 m3, .int .i64 m4, .int .i64 be, .int .i64 ck, .bool false] : Array Value).toList).toArray = #[.slice f0 m0.length f1, .slice f2 m1.length f3, .int .i64 m2, .int .i64 m3, .int .i64 m4, .int .i64 be, .int .i64 ck, .bool false] := by simp [putAt]
      refine wpAnyH_ready (rs := [9]) (by kernel_rfl) (by simp) (AllReadyH.cons rfl (fun K hK => ?_) AllReadyH.nil)
      refine step_store_blk rfl 38 (.tmp 6) (.tmp 26) rfl T 0 #[.slice f0 m0.length f1, .slice f2 m1.length f3, .int .i64 m2, .int .i64 m3, .int .i64 m4, .int .i64 be, .int .i64 ck, .bool false] #[.slice none 0 0, .slice none 0 0, .int .i64 0, .int .i64 0, .int .i64 0, .int .i64 0, .int .i64 0, .bool false] 38 rfl rfl VT (by simp) HIS.out (by simp [Value.oneCell']) ?_
      intro w6 hv6 hg6
      rw [hput] at hv6
      have far6 : ∀ k, k < wd.heap.size → w6.heap[k]? = wd.heap[k]? := fun k hk => (hg6.block k (Nat.lt_of_lt_of_le hk b10.size) (by simp; omega)).trans (b10.block k hk)
      refine hK.out _ _ (CELL.out _ ((far6 N (by omega)).trans VQ.out)) (fun hHeld => ?_)
      clear hK K
      try simp only [List.getElem_toArray, List.getElem_cons_succ, List.getElem_cons_zero, Act.put, List.setIfInBounds_toArray, List.set_cons_zero, List.set_cons_succ]
      refine wpAnyH_done (by kernel_rfl) ?_ _
      exact ⟨_, _, _, _, _, _, _, _, T, ⟨⟨m0, m1, m2, m3, m4⟩, f0, f1, f2, f3⟩, E9.out, OO.far38 VT hg6, hv6, hTN, (far6 N (by omega)).trans VQ.out, (far6 (N + 1) (by omega)).trans VR.out, (far6 (N + 1 + 1) (by omega)).trans VS.out, (BD.out.trans (b10.mono (by omega))).trans (Q.below_turn (by have := b10.size; omega) hg6 (fun r e => by injection e with e; omega)), rfl⟩
    · refine AllReadyH.cons rfl (fun K hK => ?_) AllReadyH.nil
      simp only [List.getElem_toArray, List.getElem_cons_succ, List.getElem_cons_zero]
      go_simp
      refine hK.out _ _ (CELL.out _ (heap_old2 _ _ VQ.out)) (fun hHeld => ?_)
      clear hK K
      try simp only [List.getElem_toArray, List.getElem_cons_succ, List.getElem_cons_zero, Act.put, List.setIfInBounds_toArray, List.set_cons_zero, List.set_cons_succ]
      have VT0 := new_block wd #[.slice none 0 0, .slice none 0 0, .int .i64 0, .int .i64 0, .int .i64 0, .int .i64 0, .int .i64 0, .bool false] 38 rfl
      have ba : Below wd.heap.size wd (wd.alloc (.cells #[.slice none 0 0, .slice none 0 0, .int .i64 0, .int .i64 0, .int .i64 0, .int .i64 0, .int .i64 0, .bool false] 38)) := below_box wd _
      have bN : Below N w (wd.alloc (.cells #[.slice none 0 0, .slice none 0 0, .int .i64 0, .int .i64 0, .int .i64 0, .int .i64 0, .int .i64 0, .bool false] 38)) := BD.out.trans (ba.mono (by omega))
      have sa : wd.heap.size < (wd.alloc (.cells #[.slice none 0 0, .slice none 0 0, .int .i64 0, .int .i64 0, .int .i64 0, .int .i64 0, .int .i64 0, .bool false] 38)).heap.size := by simp
      obtain ⟨T, hT⟩ : ∃ T, wd.heap.size = T := ⟨_, rfl⟩
      have hTN : N + 3 ≤ T := by omega
      have hTd : wd.heap.size ≤ T := by omega
      obtain ⟨wb, hwb⟩ : ∃ wb, wd.alloc (.cells #[.slice none 0 0, .slice none 0 0, .int .i64 0, .int .i64 0, .int .i64 0, .int .i64 0, .int .i64 0, .bool false] 38) = wb := ⟨_, rfl⟩
      rw [hwb] at VT0 ba bN sa hHeld ⊢
      rw [hT] at VT0 sa ⊢
      clear hT hwb
      refine wpAnyH_ready (rs := [2]) (by kernel_rfl) (by simp) (AllReadyH.cons rfl (fun K hK => ?_) AllReadyH.nil)
      simp only [List.getElem_toArray, List.getElem_cons_succ, List.getElem_cons_zero]
      go_simp
      go_at_call 41
      refine (CP.out wb bN).mono ?_
      rintro e wa ⟨⟨⟨m0, m1, m2, m3, m4⟩, f0, f1, f2, f3⟩, rfl, e9, o9, b9⟩
      have E9 := Lib.hid e9
      clear e9
      try go_wp2_with fail
      have b10 : Below wd.heap.size wd wa := ba.trans (b9.mono ba.size)
      refine hK.out _ _ (CELL.out _ ((b10.block N (by omega)).trans VQ.out)) (fun hHeld => ?_)
      clear hK K
      try simp only [List.getElem_toArray, List.getElem_cons_succ, List.getElem_cons_zero, Act.put, List.setIfInBounds_toArray, List.set_cons_zero, List.set_cons_succ]
      simp only [Q.Um.cells]
      refine tk 7 rfl (by kernel_rfl) hHeld (fun _ _ _ h => h) (v := ?_) ?_ ?_
      rotate_left 1
      · (intro w hSw; (try dsimp only at hSw); (try simp only [List.getElem_toArray, List.getElem_cons_succ, List.getElem_cons_zero]); go_simp) <;> (with_reducible rfl)
      try simp only [List.getElem_toArray, List.getElem_cons_succ, List.getElem_cons_zero, Act.put, List.setIfInBounds_toArray, List.set_cons_zero, List.set_cons_succ]
      have VT := (b9.block T sa).trans VT0
      have OO := o9.lower (base' := N + 3) (by omega)
      clear o9 b9 VT0 sa bN ba
      have hput : (putAt (#[.slice none 0 0, .slice none 0 0, .int .i64 0, .int .i64 0, .int .i64 0, .int .i64 0, .int .i64 0, .bool false] : Array Value).toList 0 (#[.slice f0 m0.length f1, .slice f2 m1.length f3, .int .i64 m2, .int .i64 m3, .int .i64 m4, .int .i64 be, .int .i64 ck, .bool false] : Array Value).toList).toArray = #[.slice f0 m0.length f1, .slice f2 m1.length f3, .int .i64 m2, .int .i64 m3, .int .i64 m4, .int .i64 be, .int .i64 ck, .bool false] := by simp [putAt]
      refine wpAnyH_ready (rs := [9]) (by kernel_rfl) (by simp) (AllReadyH.cons rfl (fun K hK => ?_) AllReadyH.nil)
      refine step_store_blk rfl 38 (.tmp 6) (.tmp 26) rfl T 0 #[.slice f0 m0.length f1, .slice f2 m1.length f3, .int .i64 m2, .int .i64 m3, .int .i64 m4, .int .i64 be, .int .i64 ck, .bool false] #[.slice none 0 0, .slice none 0 0, .int .i64 0, .int .i64 0, .int .i64 0, .int .i64 0, .int .i64 0, .bool false] 38 rfl rfl VT (by simp) HIS.out (by simp [Value.oneCell']) ?_
      intro w6 hv6 hg6
      rw [hput] at hv6
      have far6 : ∀ k, k < wd.heap.size → w6.heap[k]? = wd.heap[k]? := fun k hk => (hg6.block k (Nat.lt_of_lt_of_le hk b10.size) (by simp; omega)).trans (b10.block k hk)
      refine hK.out _ _ (CELL.out _ ((far6 N (by omega)).trans VQ.out)) (fun hHeld => ?_)
      clear hK K
      try simp only [List.getElem_toArray, List.getElem_cons_succ, List.getElem_cons_zero, Act.put, List.setIfInBounds_toArray, List.set_cons_zero, List.set_cons_succ]
      refine wpAnyH_done (by kernel_rfl) ?_ _
      exact ⟨_, _, _, _, _, _, _, _, T, ⟨⟨m0, m1, m2, m3, m4⟩, f0, f1, f2, f3⟩, E9.out, OO.far38 VT hg6, hv6, hTN, (far6 N (by omega)).trans VQ.out, (far6 (N + 1) (by omega)).trans VR.out, (far6 (N + 1 + 1) (by omega)).trans VS.out, (BD.out.trans (b10.mono (by omega))).trans (Q.below_turn (by have := b10.size; omega) hg6 (fun r e => by injection e with e; omega)), rfl⟩
  case rest =>
    rintro a' wx ⟨v19, v20, v21, v22, v23, v24, v25, v26, T, ⟨⟨m0, m1, m2, m3, m4⟩, f0, f1, f2, f3⟩, em, om, VT, hTN, VQ, VR, VS, bx, rfl⟩
    clear B1 VQ1 VR1 VS1 s1 CP
    simp only [Q.Sm.cells] at VT
    have hTs := (Array.getElem?_eq_some_iff.1 VT).1
    have OM := Lib.hid om
    have EM := Lib.hid em
    replace VT := Lib.hid VT
    replace VQ := Lib.hid VQ
    replace VR := Lib.hid VR
    replace VS := Lib.hid VS
    have BX := Lib.hid bx
    clear om em bx
    go_wp2_with fail
    have far : ∀ W : World, Below wx.heap.size wx W → W.heap[T]? = some (.cells #[.slice f0 m0.length f1, .slice f2 m1.length f3, .int .i64 m2, .int .i64 m3, .int .i64 m4, .int .i64 be, .int .i64 ck, .bool false] 38 (0, 0)) ∧ W.heap[N]? = some (.cells #[.int .i64 ck, .int .i64 rt, .bool true, .slice a0 p0.length c0, .slice a1 p1.length c1, .int .i64 p2, .int .i64 p3, .int .i64 p4, .int .i64 be, .int .i64 en, .slice ai items.length ci] 28 (0, 0)) ∧ W.heap[N + 1]? = some (.cells (Q.new 0 0) 28 (0, 0)) ∧ W.heap[N + 1 + 1]? = some (.cells #[.slice none 0 0, .slice none 0 0, .int .i64 0, .int .i64 0, .int .i64 0, .int .i64 0, .int .i64 0, .bool false] 38 (0, 0)) ∧ Below N w W := fun W h => ⟨(h.block T hTs).trans VT.out, (h.block N (by omega)).trans VQ.out, (h.block (N + 1) (by omega)).trans VR.out, (h.block (N + 1 + 1) (by omega)).trans VS.out, BX.out.trans (h.mono (by omega))⟩
    have CELL : Hid (∀ W' : World, W'.heap[N]? = some (.cells #[.int .i64 ck, .int .i64 rt, .bool true, .slice a0 p0.length c0, .slice a1 p1.length c1, .int .i64 p2, .int .i64 p3, .int .i64 p4, .int .i64 be, .int .i64 en, .slice ai items.length ci] 28 (0, 0)) → W'.heap[T]? = some (.cells #[.slice f0 m0.length f1, .slice f2 m1.length f3, .int .i64 m2, .int .i64 m3, .int .i64 m4, .int .i64 be, .int .i64 ck, .bool false] 38 (0, 0)) → ((W'.cell? ⟨N, 0, none⟩ = some (.int .i64 ck) ∧ W'.cell? ⟨N, 1, none⟩ = some (.int .i64 rt) ∧ W'.cell? ⟨N, 2, none⟩ = some (.bool true) ∧ W'.cell? ⟨N, 3, none⟩ = some (.slice a0 p0.length c0) ∧ W'.cell? ⟨N, 4, none⟩ = some (.slice a1 p1.length c1) ∧ W'.cell? ⟨N, 5, none⟩ = some (.int .i64 p2) ∧ W'.cell? ⟨N, 6, none⟩ = some (.int .i64 p3) ∧ W'.cell? ⟨N, 7, none⟩ = some (.int .i64 p4) ∧ W'.cell? ⟨N, 8, none⟩ = some (.int .i64 be) ∧ W'.cell? ⟨N, 9, none⟩ = some (.int .i64 en) ∧ W'.cell? ⟨N, 10, none⟩ = some (.slice ai items.length ci)) ∧ W'.cell? ⟨T, 0, none⟩ = some (.slice f0 m0.length f1) ∧ W'.cell? ⟨T, 1, none⟩ = some (.slice f2 m1.length f3) ∧ W'.cell? ⟨T, 2, none⟩ = some (.int .i64 m2) ∧ W'.cell? ⟨T, 3, none⟩ = some (.int .i64 m3) ∧ W'.cell? ⟨T, 4, none⟩ = some (.int .i64 m4) ∧ W'.cell? ⟨T, 5, none⟩ = some (.int .i64 be) ∧ W'.cell? ⟨T, 6, none⟩ = some (.int .i64 ck) ∧ W'.cell? ⟨T, 7, none⟩ = some (.bool false))) := Lib.hid (fun W' h9 h8 => by
      have r0 := cell_of_block_ (i := 0) h9
      have r1 := cell_of_block_ (i := 1) h9
      have r2 := cell_of_block_ (i := 2) h9
      have r3 := cell_of_block_ (i := 3) h9
      have r4 := cell_of_block_ (i := 4) h9
      have r5 := cell_of_block_ (i := 5) h9
      have r6 := cell_of_block_ (i := 6) h9
      have r7 := cell_of_block_ (i := 7) h9
      have r8 := cell_of_block_ (i := 8) h9
      have r9 := cell_of_block_ (i := 9) h9
      have r10 := cell_of_block_ (i := 10) h9
      simp at r0 r1 r2 r3 r4 r5 r6 r7 r8 r9 r10
      have s0 := cell_of_block_ (i := 0) h8
      have s1 := cell_of_block_ (i := 1) h8
      have s2 := cell_of_block_ (i := 2) h8
      have s3 := cell_of_block_ (i := 3) h8
      have s4 := cell_of_block_ (i := 4) h8
      have s5 := cell_of_block_ (i := 5) h8
      have s6 := cell_of_block_ (i := 6) h8
      have s7 := cell_of_block_ (i := 7) h8
      simp at s0 s1 s2 s3 s4 s5 s6 s7
      exact ⟨⟨r0, r1, r2, r3, r4, r5, r6, r7, r8, r9, r10⟩, s0, s1, s2, s3, s4, s5, s6, s7⟩)
    have FAR := Lib.hid far
    clear far
    refine wp_normal ?_
    refine wp_region_held_drew (S := fun w' => (w'.cell? ⟨N, 0, none⟩ = some (.int .i64 ck) ∧ w'.cell? ⟨N, 1, none⟩ = some (.int .i64 rt) ∧ w'.cell? ⟨N, 2, none⟩ = some (.bool true) ∧ w'.cell? ⟨N, 3, none⟩ = some (.slice a0 p0.length c0) ∧ w'.cell? ⟨N, 4, none⟩ = some (.slice a1 p1.length c1) ∧ w'.cell? ⟨N, 5, none⟩ = some (.int .i64 p2) ∧ w'.cell? ⟨N, 6, none⟩ = some (.int .i64 p3) ∧ w'.cell? ⟨N, 7, none⟩ = some (.int .i64 p4) ∧ w'.cell? ⟨N, 8, none⟩ = some (.int .i64 be) ∧ w'.cell? ⟨N, 9, none⟩ = some (.int .i64 en) ∧ w'.cell? ⟨N, 10, none⟩ = some (.slice ai items.length ci)) ∧ w'.cell? ⟨T, 0, none⟩ = some (.slice f0 m0.length f1) ∧ w'.cell? ⟨T, 1, none⟩ = some (.slice f2 m1.length f3) ∧ w'.cell? ⟨T, 2, none⟩ = some (.int .i64 m2) ∧ w'.cell? ⟨T, 3, none⟩ = some (.int .i64 m3) ∧ w'.cell? ⟨T, 4, none⟩ = some (.int .i64 m4) ∧ w'.cell? ⟨T, 5, none⟩ = some (.int .i64 be) ∧ w'.cell? ⟨T, 6, none⟩ = some (.int .i64 ck) ∧ w'.cell? ⟨T, 7, none⟩ = some (.bool false)) (by kernel_rfl) (CELL.out _ VQ.out VT.out) (fun hHeld => ?_)
    obtain ⟨wd, hwd⟩ : ∃ wd, wx.drew = wd := ⟨_, rfl⟩
    have bd : Below wx.heap.size wx wd := by rw [← hwd]; exact (Below.refl _ wx).drew
    rw [hwd] at hHeld ⊢
    clear hwd
    refine tk 0 rfl (by kernel_rfl) hHeld (fun _ _ _ h => h) (v := ?_) ?_ ?_
    rotate_left 1
    · (intro w hSw; (try dsimp only at hSw); (try simp only [List.getElem_toArray, List.getElem_cons_succ, List.getElem_cons_zero]); go_simp) <;> (with_reducible rfl)
    try simp only [List.getElem_toArray, List.getElem_cons_succ, List.getElem_cons_zero, Act.put, List.setIfInBounds_toArray, List.set_cons_zero, List.set_cons_succ]
    refine tk 4 rfl (by kernel_rfl) hHeld (fun _ _ _ h => h) (v := ?_) ?_ ?_
    rotate_left 1
    · (intro w hSw; (try dsimp only at hSw); (try simp only [List.getElem_toArray, List.getElem_cons_succ, List.getElem_cons_zero]); go_simp) <;> (with_reducible rfl)
    try simp only [List.getElem_toArray, List.getElem_cons_succ, List.getElem_cons_zero, Act.put, List.setIfInBounds_toArray, List.set_cons_zero, List.set_cons_succ]
    refine wpAnyH_ready (rs := [1]) (by kernel_rfl) (by simp) (AllReadyH.cons rfl (fun K hK => ?_) AllReadyH.nil)
    simp only [List.getElem_toArray, List.getElem_cons_succ, List.getElem_cons_zero]
    go_simp
    go_at_call 42
    refine (SI.out wd).mono ?_
    rintro e w2 ⟨rfl, b2⟩
    try go_wp2_with fail
    have bd2 := bd.trans (b2.mono bd.size)
    refine hK.out _ _ (CELL.out _ (FAR.out _ bd2).2.1 (FAR.out _ bd2).1) (fun hHeld => ?_)
    clear hK K
    try simp only [List.getElem_toArray, List.getElem_cons_succ, List.getElem_cons_zero, Act.put, List.setIfInBounds_toArray, List.set_cons_zero, List.set_cons_succ]
    simp only [Q.Qm.silent]
    refine wpAnyH_ready (rs := [2]) (by kernel_rfl) (by simp) (AllReadyH.cons rfl (fun K hK => ?_) AllReadyH.nil)
    simp only [List.getElem_toArray, List.getElem_cons_succ, List.getElem_cons_zero]
    go_simp
    go_at_call 36
    refine (ST.out w2 (FAR.out _ bd2).2.2.2.2).mono ?_
    rintro e w3 ⟨q4, rfl, e4, i4, b3⟩
    try go_wp2_with fail
    have bd3 := bd2.trans (b3.mono bd2.size)
    have I4 := Lib.hid i4
    have E4 := Lib.hid e4
    clear i4 e4
    refine hK.out _ _ (CELL.out _ (FAR.out _ bd3).2.1 (FAR.out _ bd3).1) (fun hHeld => ?_)
    clear hK K
    try simp only [List.getElem_toArray, List.getElem_cons_succ, List.getElem_cons_zero, Act.put, List.setIfInBounds_toArray, List.set_cons_zero, List.set_cons_succ]
    refine wpAnyH_ready (rs := [3]) (by kernel_rfl) (by simp) (AllReadyH.cons rfl (fun K hK => ?_) AllReadyH.nil)
    simp only [List.getElem_toArray, List.getElem_cons_succ, List.getElem_cons_zero]
    go_simp
    go_at_call 35
    refine (OW.out q4 w3 I4.out (FAR.out _ bd3).2.2.2.2 E4.out).mono ?_
    rintro e w4 ⟨⟨ck5, rt5, sp5, ⟨⟨x0, x1, x2, x3, x4⟩, h0, i0, h1, i1⟩, be5, en5, it5, ai5, ci5⟩, rfl, e5, o5, b4⟩
    have E5 := Lib.hid (e5.trans E4.out)
    clear e5
    try go_wp2_with fail
    have bd4 := bd3.trans (b4.mono bd3.size)
    refine hK.out _ _ (CELL.out _ (FAR.out _ bd4).2.1 (FAR.out _ bd4).1) (fun hHeld => ?_)
    clear hK K
    try simp only [List.getElem_toArray, List.getElem_cons_succ, List.getElem_cons_zero, Act.put, List.setIfInBounds_toArray, List.set_cons_zero, List.set_cons_succ]
    simp only [Q.Qm.cells]
    obtain ⟨VT4, VQ4, VR4, VS4, B4⟩ := FAR.out _ bd4
    have O4 := o5.lower (base' := N + 3) (by have := bd3.size; omega)
    have OM4 := OM.out.under bd4
    have s4 := bd4.size
    clear o5 b2 b3 b4 bd bd2 bd3 OW SI ST FAR
    refine wpAnyH_ready (rs := [5]) (by kernel_rfl) (by simp) (AllReadyH.cons rfl (fun K hK => ?_) AllReadyH.nil)
    refine step_store_blk rfl 28 (.tmp 2) (.tmp 30) rfl (N + 1) 0 #[.int .i64 ck5, .int .i64 rt5, .bool sp5, .slice h0 x0.length i0, .slice h1 x1.length i1, .int .i64 x2, .int .i64 x3, .int .i64 x4, .int .i64 be5, .int .i64 en5, .slice ai5 it5.length ci5] (Q.new 0 0) 28 rfl rfl VR4 (by simp) HIQ.out (by simp [Value.oneCell']) ?_
    intro w6 hv6 hg6
    have hc6 : (putAt (Q.new 0 0).toList 0 (#[.int .i64 ck5, .int .i64 rt5, .bool sp5, .slice h0 x0.length i0, .slice h1 x1.length i1, .int .i64 x2, .int .i64 x3, .int .i64 x4, .int .i64 be5, .int .i64 en5, .slice ai5 it5.length ci5] : Array Value).toList).toArray = #[.int .i64 ck5, .int .i64 rt5, .bool sp5, .slice h0 x0.length i0, .slice h1 x1.length i1, .int .i64 x2, .int .i64 x3, .int .i64 x4, .int .i64 be5, .int .i64 en5, .slice ai5 it5.length ci5] := by simp [putAt]
    rw [hc6] at hv6
    have VT6 := (hg6.block T (by omega) (by simp; omega)).trans VT4
    have VQ6 := (hg6.block N (by omega) (by simp)).trans VQ4
    have VS6 := (hg6.block (N + 1 + 1) (by omega) (by simp)).trans VS4
    have s6 := hg6.size
    refine hK.out _ _ (CELL.out _ VQ6 VT6) (fun hHeld => ?_)
    clear hK K
    try simp only [List.getElem_toArray, List.getElem_cons_succ, List.getElem_cons_zero, Act.put, List.setIfInBounds_toArray, List.set_cons_zero, List.set_cons_succ]
    refine wpAnyH_ready (rs := [6]) (by kernel_rfl) (by simp) (AllReadyH.cons rfl (fun K hK => ?_) AllReadyH.nil)
    refine step_store_blk rfl 38 (.tmp 3) (.tmp 31) rfl (N + 1 + 1) 0 #[.slice f0 m0.length f1, .slice f2 m1.length f3, .int .i64 m2, .int .i64 m3, .int .i64 m4, .int .i64 be, .int .i64 ck, .bool false] #[.slice none 0 0, .slice none 0 0, .int .i64 0, .int .i64 0, .int .i64 0, .int .i64 0, .int .i64 0, .bool false] 38 rfl rfl VS6 (by simp) HIS.out (by simp [Value.oneCell']) ?_
    intro w7 hv7 hg7
    have hc7 : (putAt (#[.slice none 0 0, .slice none 0 0, .int .i64 0, .int .i64 0, .int .i64 0, .int .i64 0, .int .i64 0, .bool false] : Array Value).toList 0 (#[.slice f0 m0.length f1, .slice f2 m1.length f3, .int .i64 m2, .int .i64 m3, .int .i64 m4, .int .i64 be, .int .i64 ck, .bool false] : Array Value).toList).toArray = #[.slice f0 m0.length f1, .slice f2 m1.length f3, .int .i64 m2, .int .i64 m3, .int .i64 m4, .int .i64 be, .int .i64 ck, .bool false] := by simp [putAt]
    rw [hc7] at hv7
    have VT7 := (hg7.block T (by omega) (by simp; omega)).trans VT6
    have VQ7 := (hg7.block N (by omega) (by simp; omega)).trans VQ6
    have hv6' := (hg7.block (N + 1) (by omega) (by simp)).trans hv6
    refine hK.out _ _ (CELL.out _ VQ7 VT7) (fun hHeld => ?_)
    clear hK K
    try simp only [List.getElem_toArray, List.getElem_cons_succ, List.getElem_cons_zero, Act.put, List.setIfInBounds_toArray, List.set_cons_zero, List.set_cons_succ]
    refine tk 7 rfl (by kernel_rfl) hHeld (fun _ _ _ h => h) (v := ?_) ?_ ?_
    rotate_left 1
    · (intro w hSw; (try dsimp only at hSw); (try simp only [List.getElem_toArray, List.getElem_cons_succ, List.getElem_cons_zero]); go_simp) <;> (with_reducible rfl)
    try simp only [List.getElem_toArray, List.getElem_cons_succ, List.getElem_cons_zero, Act.put, List.setIfInBounds_toArray, List.set_cons_zero, List.set_cons_succ]
    refine wpAnyH_done (by kernel_rfl) ?_ _
    have O7 := (O4.far VR4 hg6).turn hg7 (fun r e => .inl (by injection e with e; omega))
    have M7 := (OM4.far VR4 hg6).turn hg7 (fun r e => .inl (by injection e with e; omega))
    have B7 := (B4.trans (Q.below_turn (by omega) hg6 (fun r e => by injection e with e; omega))).trans (Q.below_turn (by omega) hg7 (fun r e => by injection e with e; omega))
    have VR7 := Lib.hid hv6'
    have VS7 := Lib.hid hv7
    replace O7 := Lib.hid O7
    replace M7 := Lib.hid M7
    replace B7 := Lib.hid B7
    clear hHeld VT4 VQ4 VR4 VS4 B4 O4 OM4 VT6 VQ6 VS6 VT7 VQ7 hv6 hv6' hv7 hg6 hg7 hc6 hc7
    go_wp2_with fail
    have vr7 := VR7.out
    have vs7 := VS7.out
    have r0 := cell_of_block_ (i := 0) vr7
    have r1 := cell_of_block_ (i := 1) vr7
    have r2 := cell_of_block_ (i := 2) vr7
    have r3 := cell_of_block_ (i := 3) vr7
    have r4 := cell_of_block_ (i := 4) vr7
    have r5 := cell_of_block_ (i := 5) vr7
    have r6 := cell_of_block_ (i := 6) vr7
    have r7 := cell_of_block_ (i := 7) vr7
    have r8 := cell_of_block_ (i := 8) vr7
    have r9 := cell_of_block_ (i := 9) vr7
    have r10 := cell_of_block_ (i := 10) vr7
    simp at r0 r1 r2 r3 r4 r5 r6 r7 r8 r9 r10
    have s0 := cell_of_block_ (i := 0) vs7
    have s1 := cell_of_block_ (i := 1) vs7
    have s2 := cell_of_block_ (i := 2) vs7
    have s3 := cell_of_block_ (i := 3) vs7
    have s4 := cell_of_block_ (i := 4) vs7
    have s5 := cell_of_block_ (i := 5) vs7
    have s6' := cell_of_block_ (i := 6) vs7
    have s7 := cell_of_block_ (i := 7) vs7
    simp at s0 s1 s2 s3 s4 s5 s6' s7
    refine bodyPost_ret (v := .tuple #[.agg #[.int .i64 ck5, .int .i64 rt5, .bool sp5, .slice h0 x0.length i0, .slice h1 x1.length i1, .int .i64 x2, .int .i64 x3, .int .i64 x4, .int .i64 be5, .int .i64 en5, .slice ai5 it5.length ci5], .agg #[.slice f0 m0.length f1, .slice f2 m1.length f3, .int .i64 m2, .int .i64 m3, .int .i64 m4, .int .i64 be, .int .i64 ck, .bool false], .int .i64 0]) (by simp [results, Try.results18, go_sem, r0, r1, r2, r3, r4, r5, r6, r7, r8, r9, r10, s0, s1, s2, s3, s4, s5, s6', s7]) rfl ⟨⟨ck5, rt5, sp5, ⟨⟨x0, x1, x2, x3, x4⟩, h0, i0, h1, i1⟩, be5, en5, it5, ai5, ci5⟩, ⟨⟨⟨m0, m1, m2, m3, m4⟩, f0, f1, f2, f3⟩, be, ck, false⟩, rfl, E5.out, ?_, O7.out.qin, M7.out.uin, by rw [HN.out]; exact B7.out⟩
    show Q.Sa.mk _ _ _ _ = _
    rw [show (⟨m0, m1, m2, m3, m4⟩ : Q.Ut) = _ from EM.out]
end Go.Proofs.Ytfjkelngdljikaa
