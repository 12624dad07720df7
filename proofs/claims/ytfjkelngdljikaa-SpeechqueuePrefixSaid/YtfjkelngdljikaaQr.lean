/-
  The walks of layer 44: Replace. By an AI agent.
-/
import Derived.Test.YtfjkelngdljikaaQt
import Derived.Test.YtfjkelngdljikaaQn
import Derived.Test.YtfjkelngdljikaaGr
namespace Go.Proofs.Ytfjkelngdljikaa
set_option linter.unusedVariables false
set_option linter.unusedSimpArgs false
open Go.RowKit Go.Joins Go.Deep

namespace Q
/-- Small enough. -/
def Qa.Sml (a : Qa) : Prop := a.items.length ≤ 16 ∧ Small a.cur ∧ ∀ u ∈ a.items, Small u
theorem Small.cp {u : Ut} (h : Small u) : u.Cp := ⟨Nat.le_trans h.1 (by decide), Nat.le_trans h.2.1 (by decide), fun c hc => Nat.le_trans (h.2.2.2 c hc) (by decide)⟩
theorem Qa.Sml.cp {a : Qa} (h : a.Sml) : a.Cp := ⟨Nat.le_trans h.1 (by decide), h.2.1.cp, fun u hu => (h.2.2 u hu).cp⟩
theorem Small.dur {u : Ut} (h : Small u) (r : Int) : 0 ≤ Q.dur r u ∧ Q.dur r u ≤ 130560 := by
  have := D.words_bd (u.words.map (·.size)) r (fun n hn => by obtain ⟨s, hs, rfl⟩ := List.mem_map.1 hn; exact Nat.le_trans (h.2.2.1 s hs) (by decide))
  have h1 := h.1
  rw [List.length_map] at this
  unfold Q.dur
  omega
theorem Small.ready {u : Ut} (h : Small u) {r now : Int} (h0 : 0 ≤ now) (h1 : now ≤ 4398046511104) : u.words.length ≤ 120 ∧ (∀ s ∈ u.words, s.size ≤ 100) ∧ IntKind.i64.wrap (now + Q.dur r u) = now + Q.dur r u :=
  ⟨Nat.le_trans h.1 (by decide), fun s hs => Nat.le_trans (h.2.2.1 s hs) (by decide), by have := Small.dur h r; generalize Q.dur r u = d at *; simp [IntKind.wrap, IntKind.bits, IntKind.signed]; omega⟩
theorem begin_sml {a : Qa} (h : a.Sml) (now : Int) : (a.begin now).Sml := by
  obtain ⟨ck, rt, sp, cu, be, en, items⟩ := a
  obtain ⟨h1, h2, h3⟩ := h
  cases items with
  | nil => exact ⟨h1, h2, h3⟩
  | cons u l =>
    simp only [List.length_cons] at h1
    exact ⟨by simp only [Qa.begin]; omega, h3 u (by simp), fun v hv => h3 v (by simp only [Qa.begin] at hv; exact List.mem_cons_of_mem _ hv)⟩
theorem settled_sml {a : Qa} (h : a.Sml) : a.settled.Sml := by
  unfold Qa.settled
  split
  · exact begin_sml h _
  · exact h
theorem chk_clock0 {q : Qa} (h : chk q = 0) : 0 ≤ q.clock ∧ q.clock ≤ 1099511627776 := by
  by_cases hh : q.clock < 0 ∨ 1099511627776 < q.clock ∨ q.rate < 25 ∨ 400 < q.rate
  · rw [chk_clock hh] at h; cases h
  · omega
/-- The empty queue. -/
def qz : Qa := ⟨0, 0, false, zero, 0, 0, []⟩
/-- What Replace answers. -/
def rep (a : Qa) (us : List Ut) : Qa × Int :=
  if prs us ≠ 0 then (qz, prs us) else if chk a ≠ 0 then (qz, chk a) else (Qa.settled ⟨a.clock, a.rate, a.sp, a.cur, a.be, a.en, us⟩, 0)
theorem rep_bad {a : Qa} {us : List Ut} (h : prs us ≠ 0) : rep a us = (qz, prs us) := by rw [rep, if_pos h]
theorem rep_chk {a : Qa} {us : List Ut} (h : prs us = 0) (h2 : chk a ≠ 0) : rep a us = (qz, chk a) := by rw [rep, if_neg (fun hh => hh h), if_pos h2]
theorem rep_ok {a : Qa} {us : List Ut} (h : prs us = 0) (h2 : chk a = 0) : rep a us = (Qa.settled ⟨a.clock, a.rate, a.sp, a.cur, a.be, a.en, us⟩, 0) := by rw [rep, if_neg (fun hh => hh h), if_neg (fun hh => hh h2)]
/-- A queue and a number that the call made. -/
def ROut (x : Qa × Int) (w w' : World) (e : Ending) : Prop := ∃ q : Qm, e = .returned (.tuple #[.agg q.cells.toArray, .int .i64 x.2]) ∧ q.a = x.1 ∧ QOwn w' w.heap.size q ∧ Below w.heap.size w w'
theorem zero_own (W : World) (base : Nat) : UOwn W base ⟨zero, none, 0, none, 0⟩ :=
  ⟨World.ownsRow_nil _ _ _ _, [], rfl, World.ownsRow_nil _ _ _ _, fun y hy => by cases hy⟩
theorem rout_zero {w w' : World} (n : Int) (hb : Below w.heap.size w w') : ROut (qz, n) w w' (.returned (.tuple #[.agg (new 0 0), .int .i64 n])) :=
  ⟨⟨0, 0, false, ⟨zero, none, 0, none, 0⟩, 0, 0, [], none, 0⟩, rfl, rfl, ⟨zero_own _ _, ⟨World.ownsRow_nil _ _ _ _, fun m hm => by cases hm⟩⟩, hb⟩
end Q
set_option maxRecDepth 100000 in
set_option maxHeartbeats 1000000 in
theorem replace_any (q : Q.Qm) (A : Option Addr) (c B : Nat) (us : List Q.Um) (w : World) (h : Q.QIn w B q) (hu : Q.UsIn w B A us) (hc : us.length ≤ c) (hB : B ≤ w.heap.size) (hq : q.a.Sml) (hl : us.length ≤ 16) (hs : ∀ m ∈ us, Q.Small m.u) :
    Calls Try.prog 14 #[.agg q.cells.toArray, .slice A us.length c] w fun e w' => Q.ROut (Q.rep q.a (us.map (·.u))) w w' e := by
  have CK := fun (W : World) (hw : Below w.heap.size w W) => check_any q B W (h.items.row.below hw hB) (Nat.le_trans hB hw.size) (by have := hq.1; simp only [Q.Qm.a, List.length_map] at this; unfold maxLen; omega) (fun m hm => by have := hq.2.2 m.u (List.mem_map.2 ⟨m, hm, rfl⟩); have h1 := this.1; have h2 := this.2.1; unfold maxLen; omega) (by have := hq.2.1.1; simp only [Q.Qm.a] at this; unfold maxLen; omega) (by have := hq.2.1.2.1; simp only [Q.Qm.a] at this; unfold maxLen; omega)
  have AL := fun (W : World) (hw : Below w.heap.size w W) => all_any A c B us W (hu.row.below hw hB) (Nat.le_trans hB hw.size) (by unfold maxLen; omega) (fun m hm => by have := hs m hm; have h1 := this.1; have h2 := this.2.1; unfold maxLen; omega)
  obtain ⟨ck, rt, sp, ⟨⟨p0, p1, p2, p3, p4⟩, a0, c0, a1, c1⟩, be, en, items, ai, ci⟩ := q
  have ST := fun (W : World) (hw : Below w.heap.size w W) (hck : Q.chk (Q.Qm.a ⟨ck, rt, sp, ⟨⟨p0, p1, p2, p3, p4⟩, a0, c0, a1, c1⟩, be, en, items, ai, ci⟩) = 0) => settled_any ⟨ck, rt, sp, ⟨⟨p0, p1, p2, p3, p4⟩, a0, c0, a1, c1⟩, be, en, us, A, c⟩ B W ⟨h.cur.below hw hB, hu.below hw hB, hc⟩ (Nat.le_trans hB hw.size) (by simp only; unfold maxLen; omega) (fun u r e => by
    have h0 := Q.chk_clock0 hck
    simp only [Q.Qm.a] at e h0
    have : u ∈ us.map (·.u) := by rw [e]; simp
    obtain ⟨m, hm, rfl⟩ := List.mem_map.1 this
    exact Q.Small.ready (hs m hm) h0.1 (Int.le_trans h0.2 (by decide)))
  have SM : Hid (Q.Qa.Sml (Q.Qm.a ⟨ck, rt, sp, ⟨⟨p0, p1, p2, p3, p4⟩, a0, c0, a1, c1⟩, be, en, us, A, c⟩)) := Lib.hid ⟨by simpa [Q.Qm.a] using hl, hq.2.1, fun u hu' => by
    simp only [Q.Qm.a] at hu'
    obtain ⟨m, hm, rfl⟩ := List.mem_map.1 hu'
    exact hs m hm⟩
  simp only [Q.Qm.cells, Q.Qm.a] at CK AL ST SM ⊢
  have RB := fun h => Q.rep_bad (a := ⟨ck, rt, sp, ⟨p0, p1, p2, p3, p4⟩, be, en, items.map (·.u)⟩) (us := us.map (·.u)) h
  have RC := fun h h2 => Q.rep_chk (a := ⟨ck, rt, sp, ⟨p0, p1, p2, p3, p4⟩, be, en, items.map (·.u)⟩) (us := us.map (·.u)) h h2
  have RO := fun h h2 => Q.rep_ok (a := ⟨ck, rt, sp, ⟨p0, p1, p2, p3, p4⟩, be, en, items.map (·.u)⟩) (us := us.map (·.u)) h h2
  simp only at RO
  generalize Q.rep ⟨ck, rt, sp, ⟨p0, p1, p2, p3, p4⟩, be, en, items.map (·.u)⟩ (us.map (·.u)) = RR at *
  generalize Q.prs (us.map (·.u)) = pv at *
  generalize Q.chk ⟨ck, rt, sp, ⟨p0, p1, p2, p3, p4⟩, be, en, items.map (·.u)⟩ = cv at *
  have b0 := (below_box w (.cells #[.int .i64 ck, .int .i64 rt, .bool sp, .slice a0 p0.length c0, .slice a1 p1.length c1, .int .i64 p2, .int .i64 p3, .int .i64 p4, .int .i64 be, .int .i64 en, .slice ai items.length ci] 28)).alloc (by simp) (.cells (Q.new 0 0) 28)
  have V0 := heap_old2 (w.alloc (.cells #[.int .i64 ck, .int .i64 rt, .bool sp, .slice a0 p0.length c0, .slice a1 p1.length c1, .int .i64 p2, .int .i64 p3, .int .i64 p4, .int .i64 be, .int .i64 en, .slice ai items.length ci] 28)) (.cells (Q.new 0 0) 28) (heap_alloc_new w _)
  have V1 := heap_alloc_new (w.alloc (.cells #[.int .i64 ck, .int .i64 rt, .bool sp, .slice a0 p0.length c0, .slice a1 p1.length c1, .int .i64 p2, .int .i64 p3, .int .i64 p4, .int .i64 be, .int .i64 en, .slice ai items.length ci] 28)) (.cells (Q.new 0 0) 28)
  rw [World.size_alloc] at V1
  have s0 : ((w.alloc (.cells #[.int .i64 ck, .int .i64 rt, .bool sp, .slice a0 p0.length c0, .slice a1 p1.length c1, .int .i64 p2, .int .i64 p3, .int .i64 p4, .int .i64 be, .int .i64 en, .slice ai items.length ci] 28)).alloc (.cells (Q.new 0 0) 28)).heap.size = w.heap.size + 2 := by simp
  replace CK := Lib.hid CK
  replace AL := Lib.hid AL
  replace ST := Lib.hid ST
  replace RB := Lib.hid RB
  replace RC := Lib.hid RC
  replace RO := Lib.hid RO
  replace b0 := Lib.hid b0
  replace V0 := Lib.hid V0
  replace V1 := Lib.hid V1
  replace s0 := Lib.hid s0
  have HIQ := Lib.hid infoQ
  clear h hu hq hs
  go_enter Try.func14, Try.ntmps14
  go_wp2_with fail
  refine (AL.out _ b0.out).mono ?_
  rintro e w1 ⟨rfl, bb⟩
  have hsz := s0.out
  have B1 := Lib.hid (b0.out.trans (bb.mono b0.out.size))
  have VB1 := Lib.hid ((bb.block w.heap.size (by simp; omega)).trans V0.out)
  have VR1 := Lib.hid ((bb.block (w.heap.size + 1) (by simp)).trans V1.out)
  have hs1 : w.heap.size + 2 ≤ w1.heap.size := by have := bb.size; simp at this; omega
  clear bb b0 V0 V1 hsz s0 AL
  obtain ⟨N, hN⟩ : ∃ N, w.heap.size = N := ⟨_, rfl⟩
  have HN := Lib.hid hN
  rw [hN] at B1 VB1 VR1 hs1 CK ST hB ⊢
  clear hN
  by_cases hp : pv = 0
  case neg =>
    have HR := Lib.hid (RB.out hp)
    have hb : (pv != 0) = true := bne_iff_ne.2 hp
    clear hp RB RC RO CK ST
    go_wp2_with (refine wpList_store_blk rfl 28 (.tmp 4) (.tmp 12) rfl (N + 1) 0 (Q.new 0 0) (Q.new 0 0) 28 ?hx ?hy ?hv (by simp) HIQ.out (by simp [Value.oneCell']) ?_; (case hx => rfl); (case hy => rfl); (case hv => exact VR1.out); intro w9 hv9 hg9; (simp [putAt] at hv9))
    have r0 := cell_of_block_ (i := 0) hv9
    have r1 := cell_of_block_ (i := 1) hv9
    have r2 := cell_of_block_ (i := 2) hv9
    have r3 := cell_of_block_ (i := 3) hv9
    have r4 := cell_of_block_ (i := 4) hv9
    have r5 := cell_of_block_ (i := 5) hv9
    have r6 := cell_of_block_ (i := 6) hv9
    have r7 := cell_of_block_ (i := 7) hv9
    have r8 := cell_of_block_ (i := 8) hv9
    have r9 := cell_of_block_ (i := 9) hv9
    have r10 := cell_of_block_ (i := 10) hv9
    simp at r0 r1 r2 r3 r4 r5 r6 r7 r8 r9 r10
    have BE9 := B1.out.trans (below_of_only hg9 (Nat.le_succ _) (by omega))
    refine bodyPost_ret (v := .tuple #[.agg (Q.new 0 0), .int .i64 pv]) (by simp [results, Try.results14, go_sem, r0, r1, r2, r3, r4, r5, r6, r7, r8, r9, r10]) rfl ?_
    rw [HR.out]
    exact Q.rout_zero _ (by rw [HN.out]; exact BE9)
  subst hp
  have k0 := cell_of_block_ (i := 0) VB1.out
  have k1 := cell_of_block_ (i := 1) VB1.out
  have k2 := cell_of_block_ (i := 2) VB1.out
  have k3 := cell_of_block_ (i := 3) VB1.out
  have k4 := cell_of_block_ (i := 4) VB1.out
  have k5 := cell_of_block_ (i := 5) VB1.out
  have k6 := cell_of_block_ (i := 6) VB1.out
  have k7 := cell_of_block_ (i := 7) VB1.out
  have k8 := cell_of_block_ (i := 8) VB1.out
  have k9 := cell_of_block_ (i := 9) VB1.out
  have k10 := cell_of_block_ (i := 10) VB1.out
  simp at k0 k1 k2 k3 k4 k5 k6 k7 k8 k9 k10
  have CK1 := Lib.hid (CK.out _ B1.out)
  go_wp2_with fail
  clear k0 k1 k2 k3 k4 k5 k6 k7 k8 k9 k10
  refine CK1.out.mono ?_
  rintro e w2 ⟨rfl, bb⟩
  have B2 := Lib.hid (B1.out.trans (bb.mono (by omega)))
  have VB2 := Lib.hid ((bb.block N (by omega)).trans VB1.out)
  have VR2 := Lib.hid ((bb.block (N + 1) (by omega)).trans VR1.out)
  have hs2 : N + 2 ≤ w2.heap.size := by have := bb.size; omega
  clear bb B1 VB1 VR1 hs1 CK CK1
  by_cases hp : cv = 0
  case neg =>
    have HR := Lib.hid (RC.out (by simp) hp)
    have hb : (cv != 0) = true := bne_iff_ne.2 hp
    clear hp RB RC RO ST
    go_wp2_with (refine wpList_store_blk rfl 28 (.tmp 4) (.tmp 18) rfl (N + 1) 0 (Q.new 0 0) (Q.new 0 0) 28 ?hx ?hy ?hv (by simp) HIQ.out (by simp [Value.oneCell']) ?_; (case hx => rfl); (case hy => rfl); (case hv => exact VR2.out); intro w9 hv9 hg9; (simp [putAt] at hv9))
    have r0 := cell_of_block_ (i := 0) hv9
    have r1 := cell_of_block_ (i := 1) hv9
    have r2 := cell_of_block_ (i := 2) hv9
    have r3 := cell_of_block_ (i := 3) hv9
    have r4 := cell_of_block_ (i := 4) hv9
    have r5 := cell_of_block_ (i := 5) hv9
    have r6 := cell_of_block_ (i := 6) hv9
    have r7 := cell_of_block_ (i := 7) hv9
    have r8 := cell_of_block_ (i := 8) hv9
    have r9 := cell_of_block_ (i := 9) hv9
    have r10 := cell_of_block_ (i := 10) hv9
    simp at r0 r1 r2 r3 r4 r5 r6 r7 r8 r9 r10
    have BE9 := B2.out.trans (below_of_only hg9 (Nat.le_succ _) (by omega))
    refine bodyPost_ret (v := .tuple #[.agg (Q.new 0 0), .int .i64 cv]) (by simp [results, Try.results14, go_sem, r0, r1, r2, r3, r4, r5, r6, r7, r8, r9, r10]) rfl ?_
    rw [HR.out]
    exact Q.rout_zero _ (by rw [HN.out]; exact BE9)
  subst hp
  have HR := Lib.hid (RO.out (by simp) (by simp))
  clear RB RC RO
  have y10 := cell_of_block_ (i := 10) VB2.out
  have f10 := unfrozen_of_block VB2.out 10
  simp at y10
  have V3 := block_setCell (i := 10) VB2.out (.slice A us.length c)
  have hg3 : w2.grownBy (w2.setCell ⟨N, 10, none⟩ (.slice A us.length c)) (some N) := only_setCell (World.grownBy.refl w2 (some N)) (.inl rfl) _
  have VR3 := Lib.hid ((hg3.block (N + 1) (by omega) (by simp)).trans VR2.out)
  have BE3 := Lib.hid (B2.out.trans (below_of_only hg3 (Nat.le_refl N) (by omega)))
  have hs3 : N + 2 ≤ (w2.setCell ⟨N, 10, none⟩ (.slice A us.length c)).heap.size := Nat.le_trans hs2 hg3.size
  obtain ⟨w3, hw3⟩ : ∃ w3, w2.setCell ⟨N, 10, none⟩ (.slice A us.length c) = w3 := ⟨_, rfl⟩
  rw [hw3] at V3 VR3 BE3 hs3
  simp at V3
  have k0 := cell_of_block_ (i := 0) V3
  have k1 := cell_of_block_ (i := 1) V3
  have k2 := cell_of_block_ (i := 2) V3
  have k3 := cell_of_block_ (i := 3) V3
  have k4 := cell_of_block_ (i := 4) V3
  have k5 := cell_of_block_ (i := 5) V3
  have k6 := cell_of_block_ (i := 6) V3
  have k7 := cell_of_block_ (i := 7) V3
  have k8 := cell_of_block_ (i := 8) V3
  have k9 := cell_of_block_ (i := 9) V3
  have k10 := cell_of_block_ (i := 10) V3
  simp at k0 k1 k2 k3 k4 k5 k6 k7 k8 k9 k10
  have ST3 := Lib.hid (ST.out w3 BE3.out (by simp))
  clear ST hg3 VB2 VR2 B2 V3
  go_wp2_with fail
  refine ST3.out.mono ?_
  rintro e w4 ⟨q4, rfl, eq4, in4, b4⟩
  have OW := own_any q4 B w4 in4 (by have := b4.size; omega) (by rw [eq4]; exact (Q.settled_sml SM.out).cp)
  have VR4 := Lib.hid ((b4.block (N + 1) (by omega)).trans VR3.out)
  have B4 := Lib.hid (BE3.out.trans (b4.mono (by omega)))
  have hs4 : N + 2 ≤ w4.heap.size := by have := b4.size; omega
  have EQ4 := Lib.hid eq4
  replace OW := Lib.hid OW
  clear ST3 in4 eq4 b4 VR3 BE3 k0 k1 k2 k3 k4 k5 k6 k7 k8 k9 k10 hw3 y10 f10
  go_wp2_with fail
  refine OW.out.mono ?_
  rintro e w5 ⟨q5, rfl, eq5, ow5, b5⟩
  have VR5 := Lib.hid ((b5.block (N + 1) (by omega)).trans VR4.out)
  have B5 := Lib.hid (B4.out.trans (b5.mono (by omega)))
  have hs5 : N + 2 ≤ w5.heap.size := by have := b5.size; omega
  have EQ5 := Lib.hid (eq5.trans EQ4.out)
  have OW5 := Lib.hid ow5
  clear OW eq5 ow5 b5 VR4 B4
  go_wp2_with (refine wpList_store_blk rfl 28 (.tmp 4) (.tmp 24) rfl (N + 1) 0 q5.cells.toArray (Q.new 0 0) 28 ?hx ?hy ?hv (by simp [Q.Qm.cells]) (by simpa [Q.Qm.cells] using HIQ.out) (by simp [Value.oneCell', Q.Qm.cells]) ?_; (case hx => rfl); (case hy => rfl); (case hv => exact VR5.out); intro w9 hv9 hg9)
  have hc9 : putAt (Q.new 0 0).toList 0 q5.cells.toArray.toList = q5.cells := by simp [putAt, Q.Qm.cells]
  rw [hc9] at hv9
  have r0 := cell_of_block_ (i := 0) hv9
  have r1 := cell_of_block_ (i := 1) hv9
  have r2 := cell_of_block_ (i := 2) hv9
  have r3 := cell_of_block_ (i := 3) hv9
  have r4 := cell_of_block_ (i := 4) hv9
  have r5 := cell_of_block_ (i := 5) hv9
  have r6 := cell_of_block_ (i := 6) hv9
  have r7 := cell_of_block_ (i := 7) hv9
  have r8 := cell_of_block_ (i := 8) hv9
  have r9 := cell_of_block_ (i := 9) hv9
  have r10 := cell_of_block_ (i := 10) hv9
  simp [Q.Qm.cells] at r0 r1 r2 r3 r4 r5 r6 r7 r8 r9 r10
  have BE9 := B5.out.trans (below_of_only hg9 (Nat.le_succ _) (by omega))
  refine bodyPost_ret (v := .tuple #[.agg q5.cells.toArray, .int .i64 0]) (by simp [results, Try.results14, go_sem, Q.Qm.cells, r0, r1, r2, r3, r4, r5, r6, r7, r8, r9, r10]) rfl ?_
  rw [HR.out]
  refine ⟨q5, rfl, EQ5.out, ?_, by rw [HN.out]; exact BE9⟩
  rw [HN.out]
  exact (OW5.out.lower (by omega)).far VR5.out hg9
end Go.Proofs.Ytfjkelngdljikaa
