/-
  The walks of layer 44: the reference's silent, begin, settle. By an AI agent.
-/
import Derived.Test.YtfjkelngdljikaaQt
namespace Go.Proofs.Ytfjkelngdljikaa
set_option linter.unusedVariables false
set_option linter.unusedSimpArgs false
open Go.RowKit Go.Joins Go.Deep

namespace Q
/-- A queue: its things came in, its row came in or was made by the call. -/
structure QMix (W : World) (B : Nat) (q : Qm) : Prop where
  cur : UIn W B q.cur
  el : ∀ m ∈ q.items, UIn W B m
  row : Reads W B 5 q.ai q.items.length (ucs q.items) ∨ W.ownsRow B 25 5 (.slice q.ai q.items.length q.ci) q.items.length (ucs q.items)
  hi : q.items.length ≤ q.ci
variable {W W' : World} {B B' : Nat} {q : Qm}
theorem QIn.mix (h : QIn W B q) : QMix W B q := ⟨h.cur, h.items.el, .inl h.items.row, h.hi⟩
theorem QMix.below (h : QMix W B q) (hb : Below W.heap.size W W') (hB : B ≤ W.heap.size) : QMix W' B q :=
  ⟨h.cur.below hb hB, fun m hm => (h.el m hm).below hb hB, h.row.elim (fun r => .inl (r.below hb hB)) (fun r => .inr (own_under r hb)), h.hi⟩
theorem QMix.far {g : Nat} {C : Array Value} (h : QMix W B q) (hc : W.heap[g]? = some (.cells C 28 (0, 0))) (hg : W.grownBy W' (some g)) (hB : B ≤ g) (hB2 : B ≤ W.heap.size) : QMix W' B q :=
  have b : Below B W W' := below_of_only hg hB hB2
  ⟨h.cur.below b (Nat.le_refl _), fun m hm => (h.el m hm).below b (Nat.le_refl _), h.row.elim (fun r => .inl (r.below b (Nat.le_refl _))) (fun r => .inr (own_far r hc (by decide) hg)), h.hi⟩
theorem QMix.qin (h : QMix W B q) (hB : B ≤ W.heap.size) : QIn W W.heap.size q :=
  ⟨h.cur.more hB, ⟨h.row.elim (fun r => r.more hB) (fun r => Reads.of_own r), fun m hm => (h.el m hm).more hB⟩, h.hi⟩
theorem QMix.silent (h : QMix W B q) : QMix W B q.silent := ⟨zero_in W B, h.el, h.row, h.hi⟩
def QMixed (B : Nat) (a : Qa) (w w' : World) (e : Ending) : Prop := ∃ q : Qm, e = .returned (.agg q.cells.toArray) ∧ q.a = a ∧ QMix w' B q ∧ Below w.heap.size w w'
end Q
set_option maxRecDepth 100000 in
set_option maxHeartbeats 1000000 in
theorem refsilent_any (q : Q.Qm) (w : World) : Calls Try.prog 43 #[.agg q.cells.toArray] w fun e w' => e = .returned (.agg q.silent.cells.toArray) ∧ Below w.heap.size w w' := by
  obtain ⟨ck, rt, sp, ⟨⟨p0, p1, p2, p3, p4⟩, a0, c0, a1, c1⟩, be, en, items, ai, ci⟩ := q
  simp only [Q.Qm.cells, Q.Qm.silent, Q.zero, List.length_nil]
  go_enter Try.func43, Try.ntmps43
  go_wp2_with fail
  exact bodyPost_ret (v := .agg #[.int .i64 ck, .int .i64 rt, .bool false, .slice none 0 0, .slice none 0 0, .int .i64 0, .int .i64 0, .int .i64 0, .int .i64 0, .int .i64 0, .slice ai items.length ci]) (by simp [results, Try.results43, go_sem]) rfl ⟨rfl, (below_box w _).alloc (by simp) _⟩
set_option maxRecDepth 100000 in
set_option maxHeartbeats 1000000 in
theorem refbegin_any (q : Q.Qm) (now : Int) (x : Q.Um) (l : List Q.Um) (B : Nat) (w : World) (h : Q.QMix w B q) (hB : B ≤ w.heap.size) (hx : q.items = x :: l) (hl : q.items.length ≤ 1000) (hw : x.u.words.length ≤ 120) (hs : ∀ s ∈ x.u.words, s.size ≤ 100) (hwr : IntKind.i64.wrap (now + Q.dur q.rate x.u) = now + Q.dur q.rate x.u) :
    Calls Try.prog 46 #[.agg q.cells.toArray, .int .i64 now] w fun e w' => Q.QMixed B (q.a.begin now) w w' e := by
  obtain ⟨ck, rt, sp, ⟨⟨p0, p1, p2, p3, p4⟩, a0, c0, a1, c1⟩, be, en, items, ai, ci⟩ := q
  simp only at hx hl
  subst hx
  have hits : Q.UsIn w w.heap.size ai (x :: l) := (h.qin hB).items
  have HEL := Lib.hid (fun m hm => h.el m (List.mem_cons_of_mem x hm))
  have HX := Lib.hid (h.el x (by simp))
  have hi := h.hi
  simp only at hi
  clear h
  obtain ⟨ai', eai, SL, hai⟩ := Q.slice_tail ai (n := (x :: l).length) (c := ci) (by simp) hi
  clear eai
  have HT := Lib.hid (Q.us_tail hits (fun h => hai (by simp; omega)))
  obtain ⟨b, off, rfl, hbB, hcl⟩ := Q.reads_at hits.row (by simp)
  obtain ⟨z0, z1, z2, z3, z4⟩ := hcl 0 (by simp)
  simp only [Nat.zero_mul, Nat.add_zero, List.getElem_cons_zero] at z0 z1 z2 z3 z4
  have WD := fun (W : World) (hw' : Below w.heap.size w W) => refwords_any x.aw x.cw B x.u.words rt W (HX.out.w.below hw' hB) hw hs
  replace WD := Lib.hid WD
  obtain ⟨⟨u0, u1, u2, u3, u4⟩, a0', c0', a1', c1'⟩ := x
  simp only at z0 z1 z2 z3 z4 WD hw hs
  simp only [Q.dur] at hwr
  simp only [Q.Qm.cells, Q.Qm.a, Q.Qa.begin, List.map_cons, Q.dur]
  have hbw : b < w.heap.size := hbB
  simp only [List.length_cons] at SL hi hl ⊢
  have q1 : (0 : Int) < ((l.length + 1 : Nat) : Int) := by omega
  have q2 : (1 : Int) ≤ ((l.length + 1 : Nat) : Int) := by omega
  clear hcl hai hits
  go_enter Try.func46, Try.ntmps46
  go_wp2_with fail
  have b0 : Below w.heap.size w ((w.alloc (.cells #[.int .i64 ck, .int .i64 rt, .bool true, .slice a0' u0.length c0', .slice a1' u1.length c1', .int .i64 u2, .int .i64 u3, .int .i64 u4, .int .i64 now, .int .i64 en, .slice (some ⟨b, off, none⟩) (l.length + 1) ci] 28)).alloc (.cells (Q.new 0 0) 28)) := (below_box w _).alloc (by simp) _
  have V0 : ((w.alloc (.cells #[.int .i64 ck, .int .i64 rt, .bool true, .slice a0' u0.length c0', .slice a1' u1.length c1', .int .i64 u2, .int .i64 u3, .int .i64 u4, .int .i64 now, .int .i64 en, .slice (some ⟨b, off, none⟩) (l.length + 1) ci] 28)).alloc (.cells (Q.new 0 0) 28)).heap[w.heap.size]? = some (.cells #[.int .i64 ck, .int .i64 rt, .bool true, .slice a0' u0.length c0', .slice a1' u1.length c1', .int .i64 u2, .int .i64 u3, .int .i64 u4, .int .i64 now, .int .i64 en, .slice (some ⟨b, off, none⟩) (l.length + 1) ci] 28 (0, 0)) := heap_old2 (w.alloc _) _ (heap_alloc_new w _)
  have V1 : ((w.alloc (.cells #[.int .i64 ck, .int .i64 rt, .bool true, .slice a0' u0.length c0', .slice a1' u1.length c1', .int .i64 u2, .int .i64 u3, .int .i64 u4, .int .i64 now, .int .i64 en, .slice (some ⟨b, off, none⟩) (l.length + 1) ci] 28)).alloc (.cells (Q.new 0 0) 28)).heap[w.heap.size + 1]? = some (.cells (Q.new 0 0) 28 (0, 0)) := by
    have := heap_alloc_new (w.alloc (.cells #[.int .i64 ck, .int .i64 rt, .bool true, .slice a0' u0.length c0', .slice a1' u1.length c1', .int .i64 u2, .int .i64 u3, .int .i64 u4, .int .i64 now, .int .i64 en, .slice (some ⟨b, off, none⟩) (l.length + 1) ci] 28)) (.cells (Q.new 0 0) 28)
    rwa [World.size_alloc] at this
  have s0 : ((w.alloc (.cells #[.int .i64 ck, .int .i64 rt, .bool true, .slice a0' u0.length c0', .slice a1' u1.length c1', .int .i64 u2, .int .i64 u3, .int .i64 u4, .int .i64 now, .int .i64 en, .slice (some ⟨b, off, none⟩) (l.length + 1) ci] 28)).alloc (.cells (Q.new 0 0) 28)).heap.size = w.heap.size + 2 := by simp
  obtain ⟨w1, hw1⟩ : ∃ w1, (w.alloc (.cells #[.int .i64 ck, .int .i64 rt, .bool true, .slice a0' u0.length c0', .slice a1' u1.length c1', .int .i64 u2, .int .i64 u3, .int .i64 u4, .int .i64 now, .int .i64 en, .slice (some ⟨b, off, none⟩) (l.length + 1) ci] 28)).alloc (.cells (Q.new 0 0) 28) = w1 := ⟨_, rfl⟩
  rw [hw1] at b0 V0 V1 s0 ⊢
  clear hw1 z0 z1 z2 z3 z4
  refine (WD.out _ b0).mono ?_
  rintro e w2 ⟨rfl, rfl⟩
  obtain ⟨dv, hdv⟩ : ∃ dv, D.words (u0.map (·.size)) rt = dv := ⟨_, rfl⟩
  have HDV := Lib.hid hdv
  rw [hdv] at hwr
  rw [hdv]
  clear hdv WD
  have B1 := Lib.hid b0
  have VB1 := Lib.hid V0
  have VR1 := Lib.hid V1
  have hs1 : w.heap.size + 2 ≤ w1.heap.size := by omega
  have HIQ := Lib.hid infoQ
  clear b0 V0 V1 s0
  obtain ⟨N, hN⟩ : ∃ N, w.heap.size = N := ⟨_, rfl⟩
  rw [hN] at B1 VB1 VR1 hs1 hB hbw HT ⊢
  have y0 := cell_of_block_ (i := 0) VB1.out
  have y1 := cell_of_block_ (i := 1) VB1.out
  have y2 := cell_of_block_ (i := 2) VB1.out
  have y3 := cell_of_block_ (i := 3) VB1.out
  have y4 := cell_of_block_ (i := 4) VB1.out
  have y5 := cell_of_block_ (i := 5) VB1.out
  have y6 := cell_of_block_ (i := 6) VB1.out
  have y7 := cell_of_block_ (i := 7) VB1.out
  have y8 := cell_of_block_ (i := 8) VB1.out
  have y9 := cell_of_block_ (i := 9) VB1.out
  have y10 := cell_of_block_ (i := 10) VB1.out
  simp at y0 y1 y2 y3 y4 y5 y6 y7 y8 y9 y10
  have f9 := unfrozen_of_block VB1.out 9
  have V4 := block_setCell (i := 9) VB1.out (.int .i64 (now + dv))
  simp at V4
  have hg4 : w1.grownBy (w1.setCell ⟨N, 9, none⟩ (.int .i64 (now + dv))) (some N) := only_setCell (World.grownBy.refl w1 (some N)) (.inl rfl) _
  have VR4 := (hg4.block (N + 1) (by omega) (by simp)).trans VR1.out
  have BE4 := B1.out.trans (below_of_only hg4 (Nat.le_refl N) (by omega))
  have hs4 : N + 2 ≤ (w1.setCell ⟨N, 9, none⟩ (.int .i64 (now + dv))).heap.size := Nat.le_trans hs1 hg4.size
  obtain ⟨w4, hw4⟩ : ∃ w4, w1.setCell ⟨N, 9, none⟩ (.int .i64 (now + dv)) = w4 := ⟨_, rfl⟩
  rw [hw4] at V4 VR4 BE4 hs4
  have k0 := cell_of_block_ (i := 0) V4
  have k1 := cell_of_block_ (i := 1) V4
  have k2 := cell_of_block_ (i := 2) V4
  have k3 := cell_of_block_ (i := 3) V4
  have k4 := cell_of_block_ (i := 4) V4
  have k5 := cell_of_block_ (i := 5) V4
  have k6 := cell_of_block_ (i := 6) V4
  have k7 := cell_of_block_ (i := 7) V4
  have k8 := cell_of_block_ (i := 8) V4
  have k9 := cell_of_block_ (i := 9) V4
  have k10 := cell_of_block_ (i := 10) V4
  simp at k0 k1 k2 k3 k4 k5 k6 k7 k8 k9 k10
  obtain ⟨iU, hiU, hU0, hU1, hU2⟩ := info_parts infoU
  have own0 := World.ownsRow_lit (base := w4.heap.size) (e := 25) (size := 5) w4 #[] 0 (Nat.le_refl _) (by decide) rfl
  have hb0 : Below w4.heap.size w4 (w4.alloc (.cells #[] 25)) := (Below.refl _ _).alloc (Nat.le_refl _) _
  have HR1 : Reads (w4.alloc (.cells #[] 25)) N 5 ai' l.length (Q.ucs l) := (HT.out.row.below BE4 (Nat.le_refl N)).below hb0 (by omega)
  have hN4 : N < w4.heap.size := by omega
  have k10a : (w4.alloc (.cells #[] 25)).cell? ⟨N, 10, none⟩ = some (.slice (some ⟨b, off, none⟩) (l.length + 1) ci) := (World.cell?_alloc_lt w4 _ ⟨N, 10, none⟩ hN4).trans k10
  replace VR4 := Lib.hid VR4
  replace BE4 := Lib.hid BE4
  replace V4 := Lib.hid V4
  replace hb0 := Lib.hid hb0
  have OWN0 := Lib.hid own0
  clear hg4 VB1 VR1 B1 own0
  go_wp2_with (first
    | (at_builtin; refine wpList_append_any _ rfl (.tmp 22) (.tmp 25) _ rfl w4.heap.size 25 iU _ 5 72 Try.underlying26 hiU hU0 hU1 hU2 rfl (by omega) (.slice (some ⟨w4.heap.size, 0, none⟩) 0 0) 0 [] rfl OWN0.out N ai' l.length _ _ rfl HR1 (Q.ucs_one _) (by simp only [maxLen]; omega) (by omega) hb0.out.size ?_; intro v5 w5 hown5 hg5 hat5; (simp only [Nat.zero_add, List.nil_append] at hown5); (obtain ⟨A5, c5, rfl, hrd5, hc5⟩ := own_reads_cap hown5); (have V5 := (hg5.block N (by simp; omega) (by simp [Value.ownBlock]; omega)).trans (heap_old2 w4 _ V4.out)); (have VR5 := (hg5.block (N + 1) (by simp; omega) (by simp [Value.ownBlock]; omega)).trans (heap_old2 w4 _ VR4.out)); (have y10b := cell_of_block_ (i := 10) V5); (have f10b := unfrozen_of_block V5 10); (simp at y10b); (have V6 := block_setCell (i := 10) V5 (.slice A5 l.length c5)); (have hg6 : w5.grownBy (w5.setCell ⟨N, 10, none⟩ (.slice A5 l.length c5)) (some N) := only_setCell (World.grownBy.refl w5 (some N)) (.inl rfl) _); (have own6 := own_far hown5 V5 (by decide) hg6); (have VR6 := (hg6.block (N + 1) (by have := hg5.size; simp at this; omega) (by simp)).trans VR5); (have BE5 := BE4.out.trans ((hb0.out.grown hg5 hb0.out.size (own_below OWN0.out (Nat.le_refl _))).mono (by omega))); (have BE6 := BE5.trans (below_of_only hg6 (Nat.le_refl N) (by have := hg5.size; simp at this; omega))); (have hs6 : N + 2 ≤ (w5.setCell ⟨N, 10, none⟩ (.slice A5 l.length c5)).heap.size := Nat.le_trans (by have := hg5.size; simp at this; omega) hg6.size); (simp at V6); (obtain ⟨w6, hw6⟩ : ∃ w6, w5.setCell ⟨N, 10, none⟩ (.slice A5 l.length c5) = w6 := ⟨_, rfl⟩); (rw [hw6] at V6 VR6 BE6 own6 hs6); (clear k0 k1 k2 k3 k4 k5 k6 k7 k8 k9 k10 k10a); (have k0 := cell_of_block_ (i := 0) V6); (have k1 := cell_of_block_ (i := 1) V6); (have k2 := cell_of_block_ (i := 2) V6); (have k3 := cell_of_block_ (i := 3) V6); (have k4 := cell_of_block_ (i := 4) V6); (have k5 := cell_of_block_ (i := 5) V6); (have k6 := cell_of_block_ (i := 6) V6); (have k7 := cell_of_block_ (i := 7) V6); (have k8 := cell_of_block_ (i := 8) V6); (have k9 := cell_of_block_ (i := 9) V6); (have k10 := cell_of_block_ (i := 10) V6); (simp at k0 k1 k2 k3 k4 k5 k6 k7 k8 k9 k10); (replace V6 := Lib.hid V6); (replace VR6 := Lib.hid VR6); (replace BE6 := Lib.hid BE6); (replace own6 := Lib.hid own6); (clear hg5 hg6 BE5 V5 VR5 hrd5 hat5 hown5))
    | (refine wpList_store_blk rfl 28 (.tmp 4) (.tmp 28) rfl (N + 1) 0 #[.int .i64 ck, .int .i64 rt, .bool true, .slice a0' u0.length c0', .slice a1' u1.length c1', .int .i64 u2, .int .i64 u3, .int .i64 u4, .int .i64 now, .int .i64 (now + dv), .slice A5 l.length c5] (Q.new 0 0) 28 ?hx ?hy ?hv (by simp) HIQ.out (by simp [Value.oneCell']) ?_; (case hx => rfl); (case hy => rfl); (case hv => exact VR6.out); intro w9 hv9 hg9; (simp [putAt] at hv9)))
  have r0 := cell_of_block_ (i := 0) hv9
  have r1 := cell_of_block_ (i := 1) hv9
  have r2 := cell_of_block_ (i := 2) hv9
  have r3 := cell_of_block_ (i := 3) hv9
  have r4 := cell_of_block_ (i := 4) hv9
  have r5 := cell_of_block_ (i := 5) hv9
  have r6 := cell_of_block_ (i := 6) hv9
  have r7 := cell_of_block_ (i := 7) hv9
  have r8 := cell_of_block_ (i := 8) hv9
  have r9 := cell_of_block_ (i := 9) hv9
  have r10 := cell_of_block_ (i := 10) hv9
  simp at r0 r1 r2 r3 r4 r5 r6 r7 r8 r9 r10
  have BE9 := BE6.out.trans (below_of_only hg9 (Nat.le_succ N) (by omega))
  have own9 := own_far own6.out VR6.out (by decide) hg9
  refine bodyPost_ret (v := .agg #[.int .i64 ck, .int .i64 rt, .bool true, .slice a0' u0.length c0', .slice a1' u1.length c1', .int .i64 u2, .int .i64 u3, .int .i64 u4, .int .i64 now, .int .i64 (now + dv), .slice A5 l.length c5]) (by simp [results, Try.results46, go_sem, r0, r1, r2, r3, r4, r5, r6, r7, r8, r9, r10]) rfl ⟨⟨ck, rt, true, ⟨⟨u0, u1, u2, u3, u4⟩, a0', c0', a1', c1'⟩, now, now + dv, l, A5, c5⟩, rfl, by simp only [Q.Qm.a, HDV.out], ?_, ?_⟩
  · exact ⟨HX.out.below BE9 hB, fun m hm => (HEL.out m hm).below BE9 hB, .inr (own_lower own9 (by omega)), hc5⟩
  · rw [hN]; exact BE9
end Go.Proofs.Ytfjkelngdljikaa
