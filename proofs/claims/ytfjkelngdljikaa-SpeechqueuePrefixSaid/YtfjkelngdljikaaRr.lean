/-
  The walks of layer 44: the reference's Replace. By an AI agent.
-/
import Derived.Test.YtfjkelngdljikaaRt
import Derived.Test.YtfjkelngdljikaaQr
import Derived.Deep.RegionHeld3
namespace Go.Proofs.Ytfjkelngdljikaa
set_option linter.unusedVariables false
set_option linter.unusedSimpArgs false
open Go.RowKit Go.Joins Go.Deep

namespace Q
/-- What the reference's Replace answers. -/
def rrep (a : Qa) (us : List Ut) : Qa × Int := if prs us ≠ 0 then (qz, prs us) else (Qa.settled ⟨a.clock, a.rate, a.sp, a.cur, a.be, a.en, us⟩, 0)
theorem rrep_bad {a : Qa} {us : List Ut} (h : prs us ≠ 0) : rrep a us = (qz, prs us) := by rw [rrep, if_pos h]
theorem rrep_ok {a : Qa} {us : List Ut} (h : prs us = 0) : rrep a us = (Qa.settled ⟨a.clock, a.rate, a.sp, a.cur, a.be, a.en, us⟩, 0) := by rw [rrep, if_neg (fun hh => hh h)]
theorem rrep_rep {a : Qa} {us : List Ut} (h : chk a = 0) : rrep a us = rep a us := by
  by_cases hp : prs us = 0
  · rw [rrep_ok hp, rep_ok hp h]
  · rw [rrep_bad hp, rep_bad hp]
/-- A queue that can be read, and a number. -/
def RIn (x : Qa × Int) (w w' : World) (e : Ending) : Prop := ∃ q : Qm, e = .returned (.tuple #[.agg q.cells.toArray, .int .i64 x.2]) ∧ q.a = x.1 ∧ QIn w' w'.heap.size q ∧ Below w.heap.size w w'
theorem rin_zero {w w' : World} (n : Int) (hb : Below w.heap.size w w') : RIn (qz, n) w w' (.returned (.tuple #[.agg (new 0 0), .int .i64 n])) :=
  ⟨⟨0, 0, false, ⟨zero, none, 0, none, 0⟩, 0, 0, [], none, 0⟩, rfl, rfl, ⟨zero_in _ _, ⟨Reads.none_, fun m hm => by cases hm⟩, Nat.le_refl _⟩, hb⟩
theorem ROut.rin {x : Qa × Int} {w w' : World} {e : Ending} (h : ROut x w w' e) : RIn x w w' e :=
  let ⟨q, e1, e2, o, b⟩ := h; ⟨q, e1, e2, o.qin, b⟩
end Q
set_option maxRecDepth 100000 in
set_option maxHeartbeats 1500000 in
theorem refreplace_any (q : Q.Qm) (A : Option Addr) (c B : Nat) (us : List Q.Um) (w : World) (h : Q.QIn w B q) (hu : Q.UsIn w B A us) (hc : us.length ≤ c) (hB : B ≤ w.heap.size) (hck : Q.chk q.a = 0) (hl : us.length ≤ 16) (hs : ∀ m ∈ us, Q.Small m.u) :
    Calls Try.prog 15 #[.agg q.cells.toArray, .slice A us.length c] w fun e w' => Q.RIn (Q.rrep q.a (us.map (·.u))) w w' e := by
  have AL := fun (W : World) (hw : Below w.heap.size w W) => refuts_any A c B us W (hu.row.below hw hB) (Nat.le_trans hB hw.size) (by unfold maxLen; omega) (fun m hm => by have := hs m hm; have h1 := this.1; have h2 := this.2.1; unfold maxLen; omega)
  obtain ⟨ck, rt, sp, ⟨⟨p0, p1, p2, p3, p4⟩, a0, c0, a1, c1⟩, be, en, items, ai, ci⟩ := q
  have HCK := Q.chk_clock0 hck
  simp only [Q.Qm.a] at HCK
  have ST := fun (W : World) (A5 : Option Addr) (c5 : Nat) (hw : Below w.heap.size w W) (hrow : W.ownsRow w.heap.size 25 5 (.slice A5 us.length c5) us.length (Q.ucs us)) (hc5 : us.length ≤ c5) => refsettle_any ⟨ck, rt, sp, ⟨⟨p0, p1, p2, p3, p4⟩, a0, c0, a1, c1⟩, be, en, us, A5, c5⟩ w.heap.size W ⟨(h.cur.below hw hB).more hB, fun m hm => ((hu.el m hm).below hw hB).more hB, .inr hrow, hc5⟩ hw.size (by simp only; omega) (fun u r e => by
    simp only [Q.Qm.a] at e
    have : u ∈ us.map (·.u) := by rw [e]; simp
    obtain ⟨m, hm, rfl⟩ := List.mem_map.1 this
    exact Q.Small.ready (hs m hm) HCK.1 (Int.le_trans HCK.2 (by decide)))
  have HT := hu.row
  simp only [Q.Qm.cells, Q.Qm.a] at AL ST ⊢
  have RB := fun h => Q.rrep_bad (a := ⟨ck, rt, sp, ⟨p0, p1, p2, p3, p4⟩, be, en, items.map (·.u)⟩) (us := us.map (·.u)) h
  have RO := fun h => Q.rrep_ok (a := ⟨ck, rt, sp, ⟨p0, p1, p2, p3, p4⟩, be, en, items.map (·.u)⟩) (us := us.map (·.u)) h
  simp only at RO
  generalize Q.rrep ⟨ck, rt, sp, ⟨p0, p1, p2, p3, p4⟩, be, en, items.map (·.u)⟩ (us.map (·.u)) = RR at *
  generalize Q.prs (us.map (·.u)) = pv at *
  have b0 := (below_box w (.cells #[.int .i64 ck, .int .i64 rt, .bool sp, .slice a0 p0.length c0, .slice a1 p1.length c1, .int .i64 p2, .int .i64 p3, .int .i64 p4, .int .i64 be, .int .i64 en, .slice ai items.length ci] 28)).alloc (by simp) (.cells (Q.new 0 0) 28)
  have V0 := heap_old2 (w.alloc (.cells #[.int .i64 ck, .int .i64 rt, .bool sp, .slice a0 p0.length c0, .slice a1 p1.length c1, .int .i64 p2, .int .i64 p3, .int .i64 p4, .int .i64 be, .int .i64 en, .slice ai items.length ci] 28)) (.cells (Q.new 0 0) 28) (heap_alloc_new w _)
  have V1 := heap_alloc_new (w.alloc (.cells #[.int .i64 ck, .int .i64 rt, .bool sp, .slice a0 p0.length c0, .slice a1 p1.length c1, .int .i64 p2, .int .i64 p3, .int .i64 p4, .int .i64 be, .int .i64 en, .slice ai items.length ci] 28)) (.cells (Q.new 0 0) 28)
  rw [World.size_alloc] at V1
  replace AL := Lib.hid AL
  replace ST := Lib.hid ST
  replace RB := Lib.hid RB
  replace RO := Lib.hid RO
  replace b0 := Lib.hid b0
  replace V0 := Lib.hid V0
  replace V1 := Lib.hid V1
  replace HT := Lib.hid HT
  have HIQ := Lib.hid infoQ
  clear h hu hck HCK hs
  go_enter Try.func15, Try.ntmps15
  go_wp2_with fail
  refine (AL.out _ b0.out).mono ?_
  rintro e w1 ⟨rfl, bb⟩
  have B1 := Lib.hid (b0.out.trans (bb.mono b0.out.size))
  have VB1 := Lib.hid ((bb.block w.heap.size (by simp; omega)).trans V0.out)
  have VR1 := Lib.hid ((bb.block (w.heap.size + 1) (by simp)).trans V1.out)
  have hs1 : w.heap.size + 2 ≤ w1.heap.size := by have := bb.size; simp at this; omega
  clear bb b0 V0 V1 AL
  obtain ⟨N, hN⟩ : ∃ N, w.heap.size = N := ⟨_, rfl⟩
  have HN := Lib.hid hN
  rw [hN] at B1 VB1 VR1 hs1 ST hB ⊢
  clear hN
  by_cases hp : pv = 0
  case neg =>
    have HR := Lib.hid (RB.out hp)
    have hb : (pv != 0) = true := bne_iff_ne.2 hp
    clear hp RB RO ST
    go_wp2_with (refine wpList_store_blk rfl 28 (.tmp 4) (.tmp 11) rfl (N + 1) 0 (Q.new 0 0) (Q.new 0 0) 28 ?hx ?hy ?hv (by simp) HIQ.out (by simp [Value.oneCell']) ?_; (case hx => rfl); (case hy => rfl); (case hv => exact VR1.out); intro w9 hv9 hg9; (simp [putAt] at hv9))
    have r0 := cell_of_block_ (i := 0) hv9
    have r1 := cell_of_block_ (i := 1) hv9
    have r2 := cell_of_block_ (i := 2) hv9
    have r3 := cell_of_block_ (i := 3) hv9
    have r4 := cell_of_block_ (i := 4) hv9
    have r5 := cell_of_block_ (i := 5) hv9
    have r6 := cell_of_block_ (i := 6) hv9
    have r7 := cell_of_block_ (i := 7) hv9
    have r8 := cell_of_block_ (i := 8) hv9
    have r9 := cell_of_block_ (i := 9) hv9
    have r10 := cell_of_block_ (i := 10) hv9
    simp at r0 r1 r2 r3 r4 r5 r6 r7 r8 r9 r10
    have BE9 := B1.out.trans (below_of_only hg9 (Nat.le_succ _) (by omega))
    refine bodyPost_ret (v := .tuple #[.agg (Q.new 0 0), .int .i64 pv]) (by simp [results, Try.results15, go_sem, r0, r1, r2, r3, r4, r5, r6, r7, r8, r9, r10]) rfl ?_
    rw [HR.out]
    exact Q.rin_zero _ (by rw [HN.out]; exact BE9)
  subst hp
  have HR := Lib.hid (RO.out (by simp))
  clear RB RO
  have hN4 : N < w1.heap.size := by omega
  obtain ⟨iU, hiU, hU0, hU1, hU2⟩ := info_parts infoU
  have OWN0 := Lib.hid (World.ownsRow_lit (base := w1.heap.size) (e := 25) (size := 5) w1 #[] 0 (Nat.le_refl _) (by decide) rfl)
  have hb0 := Lib.hid (below_box w1 (.cells #[] 25))
  have HR1 : Reads (w1.alloc (.cells #[] 25)) B 5 A us.length (Q.ucs us) := (HT.out.below B1.out hB).below hb0.out (by omega)
  clear HT
  go_wp2_with (at_builtin; refine wpList_append_any _ rfl (.tmp 13) (.tmp 14) _ rfl w1.heap.size 25 iU _ 5 72 Try.underlying26 hiU hU0 hU1 hU2 rfl (by omega) (.slice (some ⟨w1.heap.size, 0, none⟩) 0 0) 0 [] rfl OWN0.out B A us.length _ _ rfl HR1 (Q.ucs_one _) (by simp only [maxLen]; omega) (by omega) hb0.out.size ?_; intro v5 w5 hown5 hg5 hat5; (simp only [Nat.zero_add, List.nil_append] at hown5); (obtain ⟨A5, c5, rfl, hrd5, hc5⟩ := own_reads_cap hown5); (have V5 := (hg5.block N (by simp; omega) (by simp [Value.ownBlock]; omega)).trans (heap_old2 w1 _ VB1.out)); (have VR5 := (hg5.block (N + 1) (by simp; omega) (by simp [Value.ownBlock]; omega)).trans (heap_old2 w1 _ VR1.out)); (have y10b := cell_of_block_ (i := 10) V5); (have f10b := unfrozen_of_block V5 10); (simp at y10b); (have V6 := block_setCell (i := 10) V5 (.slice A5 us.length c5)); (have hg6 : w5.grownBy (w5.setCell ⟨N, 10, none⟩ (.slice A5 us.length c5)) (some N) := only_setCell (World.grownBy.refl w5 (some N)) (.inl rfl) _); (have own6 := own_far hown5 V5 (by decide) hg6); (have VR6 := (hg6.block (N + 1) (by have := hg5.size; simp at this; omega) (by simp)).trans VR5); (have BE5 := B1.out.trans ((hb0.out.grown hg5 hb0.out.size (own_below OWN0.out (Nat.le_refl _))).mono (by omega))); (have BE6 := BE5.trans (below_of_only hg6 (Nat.le_refl N) (by have := hg5.size; simp at this; omega))); (have hs6 : N + 2 ≤ (w5.setCell ⟨N, 10, none⟩ (.slice A5 us.length c5)).heap.size := Nat.le_trans (by have := hg5.size; simp at this; omega) hg6.size); (simp at V6); (obtain ⟨w6, hw6⟩ : ∃ w6, w5.setCell ⟨N, 10, none⟩ (.slice A5 us.length c5) = w6 := ⟨_, rfl⟩); (rw [hw6] at V6 VR6 BE6 own6 hs6); (have k0 := cell_of_block_ (i := 0) V6); (have k1 := cell_of_block_ (i := 1) V6); (have k2 := cell_of_block_ (i := 2) V6); (have k3 := cell_of_block_ (i := 3) V6); (have k4 := cell_of_block_ (i := 4) V6); (have k5 := cell_of_block_ (i := 5) V6); (have k6 := cell_of_block_ (i := 6) V6); (have k7 := cell_of_block_ (i := 7) V6); (have k8 := cell_of_block_ (i := 8) V6); (have k9 := cell_of_block_ (i := 9) V6); (have k10 := cell_of_block_ (i := 10) V6); (simp at k0 k1 k2 k3 k4 k5 k6 k7 k8 k9 k10); (replace V6 := Lib.hid V6); (replace VR6 := Lib.hid VR6); (replace BE6 := Lib.hid BE6); (have ST6 := Lib.hid (ST.out w6 A5 c5 BE6.out (own_lower own6 (by omega)) hc5)); (clear ST own6 hg5 hg6 BE5 V5 VR5 hrd5 hat5 hown5))
  refine ST6.out.mono ?_
  rintro e w7 ⟨q7, rfl, eq7, in7, b7⟩
  have VR7 := Lib.hid ((b7.block (N + 1) (by omega)).trans VR6.out)
  have B7 := Lib.hid (BE6.out.trans (b7.mono (by omega)))
  have hs7 : N + 2 ≤ w7.heap.size := by have := b7.size; omega
  have EQ7 := Lib.hid eq7
  have IN7 := Lib.hid in7
  clear ST6 eq7 in7 b7 VR6 BE6 k0 k1 k2 k3 k4 k5 k6 k7 k8 k9 k10 hw6
  go_wp2_with (refine wpList_store_blk rfl 28 (.tmp 4) (.tmp 18) rfl (N + 1) 0 q7.cells.toArray (Q.new 0 0) 28 ?hx ?hy ?hv (by simp [Q.Qm.cells]) (by simpa [Q.Qm.cells] using HIQ.out) (by simp [Value.oneCell', Q.Qm.cells]) ?_; (case hx => rfl); (case hy => rfl); (case hv => exact VR7.out); intro w9 hv9 hg9)
  have hc9 : putAt (Q.new 0 0).toList 0 q7.cells.toArray.toList = q7.cells := by simp [putAt, Q.Qm.cells]
  rw [hc9] at hv9
  have r0 := cell_of_block_ (i := 0) hv9
  have r1 := cell_of_block_ (i := 1) hv9
  have r2 := cell_of_block_ (i := 2) hv9
  have r3 := cell_of_block_ (i := 3) hv9
  have r4 := cell_of_block_ (i := 4) hv9
  have r5 := cell_of_block_ (i := 5) hv9
  have r6 := cell_of_block_ (i := 6) hv9
  have r7 := cell_of_block_ (i := 7) hv9
  have r8 := cell_of_block_ (i := 8) hv9
  have r9 := cell_of_block_ (i := 9) hv9
  have r10 := cell_of_block_ (i := 10) hv9
  simp [Q.Qm.cells] at r0 r1 r2 r3 r4 r5 r6 r7 r8 r9 r10
  have BE9 := B7.out.trans (below_of_only hg9 (Nat.le_succ _) (by omega))
  refine bodyPost_ret (v := .tuple #[.agg q7.cells.toArray, .int .i64 0]) (by simp [results, Try.results15, go_sem, Q.Qm.cells, r0, r1, r2, r3, r4, r5, r6, r7, r8, r9, r10]) rfl ?_
  rw [HR.out]
  exact ⟨q7, rfl, EQ7.out, (IN7.out.far VR7.out hg9 (by omega) (by omega)).qin (by have := hg9.size; omega), by rw [HN.out]; exact BE9⟩
/-- The cells of a block that is known whole. -/
theorem cells_of_block {W : World} {g : Nat} {C : Array Value} {t : TypeId} (h : W.heap[g]? = some (.cells C t (0, 0))) (i : Nat) (hi : i < C.size) : W.cell? ⟨g, i, none⟩ = some C[i] := by
  rw [cell_of_block_ h, Array.getElem?_eq_getElem hi]
/-- What Interrupt answers. -/
def Q.inter (a : Q.Qa) : Q.Qa := a.silent.settled
/-- A queue, what was spoken, and a number. -/
def Q.IIn (x : Q.Qa) (s : Q.Sa) (n : Int) (w w' : World) (e : Ending) : Prop := ∃ (q : Q.Qm) (m : Q.Sm), e = .returned (.tuple #[.agg q.cells.toArray, .agg m.cells.toArray, .int .i64 n]) ∧ q.a = x ∧ m.a = s ∧ Q.QIn w' w'.heap.size q ∧ Q.UIn w' w'.heap.size m.m ∧ Below w.heap.size w w'
end Go.Proofs.Ytfjkelngdljikaa
