/-
  The walks of layer 44: the reference's Advance. By an AI agent.
-/
import Derived.Test.YtfjkelngdljikaaAe
import Derived.Test.YtfjkelngdljikaaRs
namespace Go.Proofs.Ytfjkelngdljikaa
set_option linter.unusedVariables false
set_option linter.unusedSimpArgs false
open Go.RowKit Go.Joins Go.Deep

namespace Q
/-- What is still to come. -/
def still (time now : Int) (a : Qa) : St Ut × List (Ut × Int × Int) := Q.adv (·.af) (dur a.rate) now (ofQ a) time
theorem still_end {time now : Int} {a : Qa} (hs : a.sp = true) (h : time < a.en) : still time now a = (ofQ a, []) := by
  have ho : ofQ a = ⟨some (a.cur, a.be, a.en), a.items⟩ := by simp [ofQ, hs]
  unfold still
  rw [ho]
  simp [Q.adv, h]
theorem still_done {time now : Int} {a : Qa} (hs : a.sp = true) (h : ¬ time < a.en) : still time now a = ((still time a.en a.silent).1, (a.cur, a.be, a.en) :: (still time a.en a.silent).2) := by
  have ho : ofQ a = ⟨some (a.cur, a.be, a.en), a.items⟩ := by simp [ofQ, hs]
  have ho2 : ofQ a.silent = ⟨none, a.items⟩ := by simp [ofQ, Qa.silent]
  unfold still
  rw [ho, ho2]
  simp only [Q.adv, h, if_false]
  rfl
theorem still_nil {time now : Int} {a : Qa} (hs : a.sp = false) (h : a.items = []) : still time now a = (ofQ a, []) := by
  have ho : ofQ a = ⟨none, a.items⟩ := by simp [ofQ, hs]
  unfold still
  rw [ho, h]
  rfl
theorem still_late {time now : Int} {a : Qa} {u : Ut} {l : List Ut} (hs : a.sp = false) (h : a.items = u :: l) (ht : time < max now u.af) : still time now a = (ofQ a, []) := by
  have ho : ofQ a = ⟨none, a.items⟩ := by simp [ofQ, hs]
  unfold still
  rw [ho, h]
  exact runI_wait _ _ ht
theorem still_begin {time now : Int} {a : Qa} {u : Ut} {l : List Ut} (hs : a.sp = false) (h : a.items = u :: l) (ht : ¬ time < max now u.af) (now' : Int) : still time now a = still time now' (a.begin (max now u.af)) := by
  have ho : ofQ a = ⟨none, a.items⟩ := by simp [ofQ, hs]
  have ho2 : ofQ (a.begin (max now u.af)) = ⟨some (u, max now u.af, max now u.af + dur a.rate u), l⟩ := by simp [ofQ, Qa.begin, h]
  have hr : (a.begin (max now u.af)).rate = a.rate := by simp [Qa.begin, h]
  unfold still
  rw [hr, ho, ho2, h]
  simp only [Q.adv]
  by_cases h2 : time < max now u.af + dur a.rate u
  · rw [if_pos h2, runI_speak _ _ (by omega) h2]
  · rw [if_neg h2, runI_done _ _ (by omega) (by omega)]
/-- The queue of what is left, at its time. -/
theorem toQ_ofQ {a : Qa} (hc : a.Clean) (time : Int) : toQ time a.rate (ofQ a) = a.at time := by
  obtain ⟨ck, rt, sp, cur, be, en, items⟩ := a
  cases sp with
  | true => rfl
  | false =>
    obtain ⟨h1, h2, h3⟩ := hc rfl
    simp only at h1 h2 h3
    subst h1 h2 h3
    rfl
/-- What the reference's variables hold. -/
structure RI (N : Nat) (w : World) (time : Int) (a0 : Qa) (q : Qm) (now : Int) (ss : List Sm) (A : Option Addr) (c : Nat) (W : World) : Prop where
  be : Below N w W
  vq : W.heap[N]? = some (.cells q.cells.toArray 28 (0, 0))
  vr : W.heap[N + 1]? = some (.cells (new 0 0) 28 (0, 0))
  mix : QMix W N q
  row : W.ownsRow (N + 2) 38 8 (.slice A ss.length c) ss.length (scs ss)
  us : ∀ s ∈ ss, UIn W N s.m
  run : (toQ time q.rate (still time now q.a).1, ss.map Sm.a ++ (still time now q.a).2.map toSa) = a0.adv time
  clean : q.a.Clean
  sml : q.a.Sml
  en : q.sp = true → 0 ≤ q.en
  len : ss.length + q.items.length + (if q.sp = true then 1 else 0) ≤ 17
  sz : N + 2 ≤ W.heap.size
variable {N : Nat} {w W W' : World} {time : Int} {a0 : Qa} {q q' : Qm} {now now' : Int} {ss : List Sm} {A : Option Addr} {c : Nat}
/-- Behind a call. -/
theorem RI.below (h : RI N w time a0 q now ss A c W) (hb : Below W.heap.size W W') : RI N w time a0 q now ss A c W' :=
  have hs := h.sz
  ⟨h.be.trans (hb.mono (by omega)), (hb.block N (by omega)).trans h.vq, (hb.block (N + 1) (by omega)).trans h.vr, h.mix.below hb (by omega), own_under h.row hb, fun s hs' => (h.us s hs').below hb (by omega), h.run, h.clean, h.sml, h.en, h.len, Nat.le_trans hs hb.size⟩
/-- Another queue in its variable. -/
theorem RI.put (h : RI N w time a0 q now ss A c W) (hg : W.grownBy W' (some N)) (hv : W'.heap[N]? = some (.cells q'.cells.toArray 28 (0, 0))) (hm : QMix W N q') (hr : (toQ time q'.rate (still time now' q'.a).1, ss.map Sm.a ++ (still time now' q'.a).2.map toSa) = a0.adv time)
    (hc : q'.a.Clean) (hl : q'.a.Sml) (he : q'.sp = true → 0 ≤ q'.en) (hn : ss.length + q'.items.length + (if q'.sp = true then 1 else 0) ≤ 17) : RI N w time a0 q' now' ss A c W' :=
  have hs := h.sz
  have b : Below N W W' := below_of_only hg (Nat.le_refl N) (by omega)
  ⟨h.be.trans b, hv, (hg.block (N + 1) (by omega) (by simp)).trans h.vr, hm.far h.vq hg (Nat.le_refl N) (by omega), own_far h.row h.vq (by decide) hg, fun s hs' => (h.us s hs').below b (Nat.le_refl _), hr, hc, hl, he, hn, Nat.le_trans hs hg.size⟩
/-- A report more. -/
theorem RI.push (h : RI N w time a0 q now ss A c W) {s : Sm} (hs1 : UIn W N s.m) {A5 : Option Addr} {c5 : Nat} (hown : W'.ownsRow (N + 2) 38 8 (.slice A5 (ss.length + 1) c5) (ss.length + 1) (scs ss ++ s.cells)) (hg : W.grownBy W' (Value.slice A ss.length c).ownBlock) :
    Below N w W' ∧ W'.heap[N]? = some (.cells q.cells.toArray 28 (0, 0)) ∧ W'.heap[N + 1]? = some (.cells (new 0 0) 28 (0, 0)) ∧ QMix W' N q ∧ W'.ownsRow (N + 2) 38 8 (.slice A5 (ss ++ [s]).length c5) (ss ++ [s]).length (scs (ss ++ [s])) ∧ (∀ s' ∈ ss ++ [s], UIn W' N s'.m) ∧ N + 2 ≤ W'.heap.size := by
  have hs := h.sz
  have ge : ∀ g, (Value.slice A ss.length c).ownBlock = some g → N + 2 ≤ g := fun g hg' => (h.row.lt g hg').1
  have b : Below N W W' := below_turn (by omega) hg (fun r e => by have := ge r e; omega)
  refine ⟨h.be.trans b, (hg.block N (by omega) (fun e => by have := ge _ e.symm; omega)).trans h.vq, (hg.block (N + 1) (by omega) (fun e => by have := ge _ e.symm; omega)).trans h.vr, ⟨h.mix.cur.below b (Nat.le_refl _), fun m hm => (h.mix.el m hm).below b (Nat.le_refl _), h.mix.row.elim (fun r => .inl (r.below b (Nat.le_refl _))) (fun r => .inr (kept_of r hg (own_apart r h.row (by decide)))), h.mix.hi⟩, ?_, ?_, Nat.le_trans hs hg.size⟩
  · rw [List.length_append, scs_snoc]; exact hown
  · intro s' hs'
    rcases List.mem_append.1 hs' with hs' | hs'
    · exact (h.us s' hs').below b (Nat.le_refl _)
    · simp only [List.mem_singleton] at hs'
      subst hs'
      exact hs1.below b (Nat.le_refl _)
end Q
theorem own_cap_ {w : World} {base : Nat} {e : TypeId} {size n c : Nat} {A : Option Addr} {xs : List Value} (h : w.ownsRow base e size (.slice A n c) n xs) : n ≤ c := by
  obtain ⟨A1, c1, e1, _, h1⟩ := own_reads_cap h
  injection e1 with _ _ e2
  subst e2
  exact h1

set_option maxRecDepth 100000 in
set_option maxHeartbeats 4000000 in
theorem refadvance_ok (q : Q.Qm) (time : Int) (B : Nat) (w : World) (h : Q.QIn w B q) (hB : B ≤ w.heap.size) (hsml : q.a.Sml) (hchk : Q.chk q.a = 0) (ht0 : 0 ≤ time) (ht1 : time ≤ 1099511627776) (ht2 : q.clock ≤ time) :
    Calls Try.prog 25 #[.agg q.cells.toArray, .int .i64 time] w fun e w' => Q.AOut ((q.a.adv time).1, (q.a.adv time).2, 0) w w' e := by
  have HCK := Q.chk_clock0 hchk
  have HCL := Q.chk_clean hchk
  have HEN := fun hs => (Q.chk_en hchk hs).1
  have HLN : q.items.length ≤ 16 := by have := hsml.1; simpa [Q.Qm.a] using this
  obtain ⟨a0', ha0'⟩ : ∃ a, q.a = a := ⟨_, rfl⟩
  have R0 : (Q.toQ time q.rate (Q.still time q.clock q.a).1, ([] : List Q.Sm).map Q.Sm.a ++ (Q.still time q.clock q.a).2.map Q.toSa) = a0'.adv time := by
    rw [← ha0']; simp [Q.still, Q.Qa.adv, Q.Qm.a]
  rcases hq : q with ⟨ck, rt, sp, ⟨⟨p0, p1, p2, p3, p4⟩, a0, c0, a1, c1⟩, be, en, items, ai, ci⟩
  rw [hq] at h hsml HCK HCL HEN HLN R0 ht2 ha0'
  simp only [Q.Qm.a] at HCK
  simp only at ht2
  rw [ha0']
  simp only [Q.Qm.cells]
  have b0 := (below_box w (.cells #[.int .i64 ck, .int .i64 rt, .bool sp, .slice a0 p0.length c0, .slice a1 p1.length c1, .int .i64 p2, .int .i64 p3, .int .i64 p4, .int .i64 be, .int .i64 en, .slice ai items.length ci] 28)).alloc (by simp) (.cells (Q.new 0 0) 28)
  have V0 := heap_old2 (w.alloc (.cells #[.int .i64 ck, .int .i64 rt, .bool sp, .slice a0 p0.length c0, .slice a1 p1.length c1, .int .i64 p2, .int .i64 p3, .int .i64 p4, .int .i64 be, .int .i64 en, .slice ai items.length ci] 28)) (.cells (Q.new 0 0) 28) (heap_alloc_new w _)
  have V1 := heap_alloc_new (w.alloc (.cells #[.int .i64 ck, .int .i64 rt, .bool sp, .slice a0 p0.length c0, .slice a1 p1.length c1, .int .i64 p2, .int .i64 p3, .int .i64 p4, .int .i64 be, .int .i64 en, .slice ai items.length ci] 28)) (.cells (Q.new 0 0) 28)
  rw [World.size_alloc] at V1
  have g1 : decide (time < 0) = false := decide_eq_false (by omega)
  have g2 : decide (1099511627776 < time) = false := decide_eq_false (by omega)
  have g3 : decide (time < ck) = false := decide_eq_false (by omega)
  have OWN0 := World.ownsRow_lit (base := w.heap.size + 2) (e := 38) (size := 8) ((w.alloc (.cells #[.int .i64 ck, .int .i64 rt, .bool sp, .slice a0 p0.length c0, .slice a1 p1.length c1, .int .i64 p2, .int .i64 p3, .int .i64 p4, .int .i64 be, .int .i64 en, .slice ai items.length ci] 28)).alloc (.cells (Q.new 0 0) 28)) #[] 0 (by simp) (by decide) rfl
  have hb3 := below_box ((w.alloc (.cells #[.int .i64 ck, .int .i64 rt, .bool sp, .slice a0 p0.length c0, .slice a1 p1.length c1, .int .i64 p2, .int .i64 p3, .int .i64 p4, .int .i64 be, .int .i64 en, .slice ai items.length ci] 28)).alloc (.cells (Q.new 0 0) 28)) (.cells #[] 38)
  have I0 : Q.RI w.heap.size w time a0' (⟨ck, rt, sp, ⟨⟨p0, p1, p2, p3, p4⟩, a0, c0, a1, c1⟩, be, en, items, ai, ci⟩ : Q.Qm) ck [] (some ⟨w.heap.size + 2, 0, none⟩) 0 (((w.alloc (.cells #[.int .i64 ck, .int .i64 rt, .bool sp, .slice a0 p0.length c0, .slice a1 p1.length c1, .int .i64 p2, .int .i64 p3, .int .i64 p4, .int .i64 be, .int .i64 en, .slice ai items.length ci] 28)).alloc (.cells (Q.new 0 0) 28)).alloc (.cells #[] 38)) :=
    ⟨b0.trans (hb3.mono (by simp; omega)), heap_old2 _ _ V0, heap_old2 _ _ V1, (((h.below b0 hB).below hb3 (by simp; omega)).more hB).mix, by simpa [Q.scs] using OWN0, (fun s hs => by cases hs), R0, HCL, hsml, HEN, (by simp only at HLN; simp only [List.length_nil]; split <;> omega), (by simp)⟩
  have I0' := Lib.hid I0
  have HIQ := Lib.hid infoQ
  obtain ⟨iS, hiS, hS0, hS1, hS2⟩ := info_parts infoS
  have G0 : Hid (0 ≤ ck) := Lib.hid HCK.1
  clear h hsml HCK HCL HEN HLN R0 b0 V0 V1 OWN0 hb3 I0 ha0' hq
  go_enter Try.func25, Try.ntmps25
  go_wp2_with fail
  obtain ⟨N, hN⟩ : ∃ N, w.heap.size = N := ⟨_, rfl⟩
  have HN := Lib.hid hN
  rw [hN] at I0' ⊢
  clear hN
  go_loopg [7, 8] (2 * items.length + (if sp = true then 1 else 0)) (fun g o n wr => ∃ (q2 : Q.Qm) (now : Int) (ss : List Q.Sm) (A : Option Addr) (c : Nat), o = .slice A ss.length c ∧ n = .int .i64 now ∧ Hid (0 ≤ now) ∧ Hid (g = 2 * q2.items.length + (if q2.sp = true then 1 else 0)) ∧ Hid (Q.RI N w time a0' q2 now ss A c wr))
  case atStart => exact ⟨(⟨ck, rt, sp, ⟨⟨p0, p1, p2, p3, p4⟩, a0, c0, a1, c1⟩, be, en, items, ai, ci⟩ : Q.Qm), ck, [], some ⟨N + 2, 0, none⟩, 0, rfl, rfl, G0, Lib.hid rfl, I0'⟩
  case round =>
    clear I0' G0 g1 g2 g3
    obtain ⟨q2, now, ss, A, c, rfl, rfl, hnow, hg, R⟩ := hrel
    rcases hq2 : q2 with ⟨ck, rt, sp, ⟨⟨p0, p1, p2, p3, p4⟩, a0, c0, a1, c1⟩, be, en, items, ai, ci⟩
    rw [hq2] at hg R
    clear hq2 q2
    have sz := R.out.sz
    have VQ := R.out.vq
    simp only [Q.Qm.cells] at VQ
    have k0 := cell_of_block_ (i := 0) VQ
    have k1 := cell_of_block_ (i := 1) VQ
    have k2 := cell_of_block_ (i := 2) VQ
    have k3 := cell_of_block_ (i := 3) VQ
    have k4 := cell_of_block_ (i := 4) VQ
    have k5 := cell_of_block_ (i := 5) VQ
    have k6 := cell_of_block_ (i := 6) VQ
    have k7 := cell_of_block_ (i := 7) VQ
    have k8 := cell_of_block_ (i := 8) VQ
    have k9 := cell_of_block_ (i := 9) VQ
    have k10 := cell_of_block_ (i := 10) VQ
    simp at k0 k1 k2 k3 k4 k5 k6 k7 k8 k9 k10
    cases sp with
    | true =>
      by_cases h1 : time < en
      · have g1 : decide (time < en) = true := decide_eq_true h1
        have HR : Hid (Q.toQ time rt (Q.ofQ (Q.Qm.a (⟨ck, rt, true, ⟨⟨p0, p1, p2, p3, p4⟩, a0, c0, a1, c1⟩, be, en, items, ai, ci⟩ : Q.Qm))) = (a0'.adv time).1 ∧ ss.map Q.Sm.a = (a0'.adv time).2) := Lib.hid (by
          have := R.out.run
          rw [Q.still_end rfl h1] at this
          exact ⟨congrArg Prod.fst this, by simpa using congrArg Prod.snd this⟩)
        have f0 := unfrozen_of_block VQ 0
        have V1 := block_setCell (i := 0) VQ (.int .i64 time)
        have hgA : wr.grownBy (wr.setCell ⟨N, 0, none⟩ (.int .i64 time)) (some N) := only_setCell (World.grownBy.refl wr (some N)) (.inl rfl) _
        have R2 := R.out.put (q' := (⟨ck, rt, true, ⟨⟨p0, p1, p2, p3, p4⟩, a0, c0, a1, c1⟩, be, en, items, ai, ci⟩ : Q.Qm).at time) (now' := now) hgA (by simpa [Q.Qm.cells, Q.Qm.at] using V1) (show Q.QMix wr N ((⟨ck, rt, true, ⟨⟨p0, p1, p2, p3, p4⟩, a0, c0, a1, c1⟩, be, en, items, ai, ci⟩ : Q.Qm).at time) from ⟨R.out.mix.cur, R.out.mix.el, R.out.mix.row, R.out.mix.hi⟩) R.out.run R.out.clean R.out.sml R.out.en R.out.len
        obtain ⟨W2, hW2⟩ : ∃ W2, wr.setCell ⟨N, 0, none⟩ (.int .i64 time) = W2 := ⟨_, rfl⟩
        rw [hW2] at R2
        have V2 := R2.vq
        simp only [Q.Qm.cells, Q.Qm.at] at V2
        have R3 := Lib.hid R2
        have HA : Hid (Q.Qa.Clean (Q.Qm.a (⟨ck, rt, true, ⟨⟨p0, p1, p2, p3, p4⟩, a0, c0, a1, c1⟩, be, en, items, ai, ci⟩ : Q.Qm))) := Lib.hid R.out.clean
        have y0 := cell_of_block_ (i := 0) V2
        have y1 := cell_of_block_ (i := 1) V2
        have y2 := cell_of_block_ (i := 2) V2
        have y3 := cell_of_block_ (i := 3) V2
        have y4 := cell_of_block_ (i := 4) V2
        have y5 := cell_of_block_ (i := 5) V2
        have y6 := cell_of_block_ (i := 6) V2
        have y7 := cell_of_block_ (i := 7) V2
        have y8 := cell_of_block_ (i := 8) V2
        have y9 := cell_of_block_ (i := 9) V2
        have y10 := cell_of_block_ (i := 10) V2
        simp at y0 y1 y2 y3 y4 y5 y6 y7 y8 y9 y10
        try simp only [List.length_nil, List.length_cons] at y10 k10
        clear V1 V2 VQ R2 hgA R hg hnow h1
        go_wp2_with (refine wpList_store_blk rfl 28 (.tmp 4) (.tmp 63) rfl (N + 1) 0 #[.int .i64 time, .int .i64 rt, .bool true, .slice a0 p0.length c0, .slice a1 p1.length c1, .int .i64 p2, .int .i64 p3, .int .i64 p4, .int .i64 be, .int .i64 en, .slice ai items.length ci] (Q.new 0 0) 28 ?hx ?hy ?hv (by simp) HIQ.out (by simp [Value.oneCell']) ?_; (case hx => rfl); (case hy => rfl); (case hv => exact R3.out.vr); intro w9 hv9 hg9; (simp [putAt] at hv9))
        have r0 := cell_of_block_ (i := 0) hv9
        have r1 := cell_of_block_ (i := 1) hv9
        have r2 := cell_of_block_ (i := 2) hv9
        have r3 := cell_of_block_ (i := 3) hv9
        have r4 := cell_of_block_ (i := 4) hv9
        have r5 := cell_of_block_ (i := 5) hv9
        have r6 := cell_of_block_ (i := 6) hv9
        have r7 := cell_of_block_ (i := 7) hv9
        have r8 := cell_of_block_ (i := 8) hv9
        have r9 := cell_of_block_ (i := 9) hv9
        have r10 := cell_of_block_ (i := 10) hv9
        simp at r0 r1 r2 r3 r4 r5 r6 r7 r8 r9 r10
        have b9 : Below N W2 w9 := below_of_only hg9 (Nat.le_succ N) (by have := R3.out.sz; omega)
        refine bodyPost_ret (v := .tuple #[.agg #[.int .i64 time, .int .i64 rt, .bool true, .slice a0 p0.length c0, .slice a1 p1.length c1, .int .i64 p2, .int .i64 p3, .int .i64 p4, .int .i64 be, .int .i64 en, .slice ai items.length ci], .slice A ss.length c, .int .i64 0]) (by simp [results, Try.results25, go_sem, r0, r1, r2, r3, r4, r5, r6, r7, r8, r9, r10]) rfl ⟨(⟨ck, rt, true, ⟨⟨p0, p1, p2, p3, p4⟩, a0, c0, a1, c1⟩, be, en, items, ai, ci⟩ : Q.Qm).at time, A, c, ss, rfl, ?_, HR.out.2, ?_, ⟨?_, ?_⟩, (own_cap_ R3.out.row), ?_⟩
        · rw [← HR.out.1]; exact (Q.toQ_ofQ HA.out time).symm
        · exact (R3.out.mix.far R3.out.vr hg9 (Nat.le_succ N) (by have := R3.out.sz; omega)).qin (by have := hg9.size; have := R3.out.sz; omega)
        · obtain ⟨A1, c1', e1', r1', _⟩ := own_reads_cap (own_far R3.out.row R3.out.vr (by decide) hg9)
          injection e1' with e1' _ _
          subst e1'
          exact r1'
        · exact fun s hs => ((R3.out.us s hs).below b9 (Nat.le_refl _)).more (by have := hg9.size; have := R3.out.sz; omega)
        · rw [HN.out]; exact R3.out.be.trans b9
      · have g1 : decide (time < en) = false := decide_eq_false h1
        have HRN : Hid (∀ ss2 : List Q.Sm, ss2 = ss ++ [(⟨⟨⟨p0, p1, p2, p3, p4⟩, a0, c0, a1, c1⟩, be, en, true⟩ : Q.Sm)] → (Q.toQ time rt (Q.still time en (Q.Qm.a (Q.Qm.silent (⟨ck, rt, true, ⟨⟨p0, p1, p2, p3, p4⟩, a0, c0, a1, c1⟩, be, en, items, ai, ci⟩ : Q.Qm)))).1, ss2.map Q.Sm.a ++ (Q.still time en (Q.Qm.a (Q.Qm.silent (⟨ck, rt, true, ⟨⟨p0, p1, p2, p3, p4⟩, a0, c0, a1, c1⟩, be, en, items, ai, ci⟩ : Q.Qm)))).2.map Q.toSa) = a0'.adv time) := Lib.hid (fun ss2 e2 => by
          have := R.out.run
          rw [Q.still_done rfl h1] at this
          rw [← this, e2]
          simp only [Q.Qm.silent_a, List.map_append, List.map_cons, List.map_nil, List.append_assoc, List.singleton_append]
          rfl)
        have HLN : ss.length + items.length + 1 ≤ 17 := by have := R.out.len; simpa using this
        have HEN : Hid (0 ≤ en) := Lib.hid (R.out.en rfl)
        have HSL : Hid (Q.Qa.Sml (Q.Qm.a (Q.Qm.silent (⟨ck, rt, true, ⟨⟨p0, p1, p2, p3, p4⟩, a0, c0, a1, c1⟩, be, en, items, ai, ci⟩ : Q.Qm)))) := Lib.hid (by rw [Q.Qm.silent_a]; exact Q.silent_sml R.out.sml)
        clear h1
        have RB := Lib.hid (R.out.below (below_box wr (.cells #[.slice a0 p0.length c0, .slice a1 p1.length c1, .int .i64 p2, .int .i64 p3, .int .i64 p4, .int .i64 be, .int .i64 en, .bool true] 38)))
        have RD : Hid (Reads (wr.alloc (.cells #[.slice a0 p0.length c0, .slice a1 p1.length c1, .int .i64 p2, .int .i64 p3, .int .i64 p4, .int .i64 be, .int .i64 en, .bool true] 38)) (wr.alloc (.cells #[.slice a0 p0.length c0, .slice a1 p1.length c1, .int .i64 p2, .int .i64 p3, .int .i64 p4, .int .i64 be, .int .i64 en, .bool true] 38)).heap.size 8 (some ⟨wr.heap.size, 0, none⟩) 1 (Q.Sm.cells (⟨⟨⟨p0, p1, p2, p3, p4⟩, a0, c0, a1, c1⟩, be, en, true⟩ : Q.Sm))) := Lib.hid (Reads.of_own (World.ownsRow_lit (base := wr.heap.size) (e := 38) (size := 8) wr #[.slice a0 p0.length c0, .slice a1 p1.length c1, .int .i64 p2, .int .i64 p3, .int .i64 p4, .int .i64 be, .int .i64 en, .bool true] 1 (by simp) (by decide) rfl))
        have SI := Lib.hid (fun W => refsilent_any (⟨ck, rt, true, ⟨⟨p0, p1, p2, p3, p4⟩, a0, c0, a1, c1⟩, be, en, items, ai, ci⟩ : Q.Qm) W)
        simp only [Q.Qm.cells] at SI
        go_wp2_with (first
          | (at_builtin; refine wpList_append_any _ rfl (.tmp 30) (.tmp 38) _ rfl (N + 2) 38 iS _ 8 96 Try.underlying45 hiS hS0 hS1 hS2 rfl (by omega) (.slice A ss.length c) ss.length (Q.scs ss) rfl RB.out.row _ (some ⟨wr.heap.size, 0, none⟩) 1 1 (Q.Sm.cells (⟨⟨⟨p0, p1, p2, p3, p4⟩, a0, c0, a1, c1⟩, be, en, true⟩ : Q.Sm)) rfl RD.out (by simp [Q.Sm.cells, Value.oneCell']) (by simp only [maxLen]; omega) (by omega) (by simp; omega) ?_; (intro v5 w5 hown5 hg5 _); (obtain ⟨A5, c5, rfl, _, _⟩ := own_reads_cap hown5); (obtain ⟨n1, n2, n3, n4, n5, n6, n7⟩ := RB.out.push (s := (⟨⟨⟨p0, p1, p2, p3, p4⟩, a0, c0, a1, c1⟩, be, en, true⟩ : Q.Sm)) RB.out.mix.cur hown5 hg5); (have VN5 := n2); (simp only [Q.Qm.cells] at VN5); (have y0 := cell_of_block_ (i := 0) VN5); (have y1 := cell_of_block_ (i := 1) VN5); (have y2 := cell_of_block_ (i := 2) VN5); (have y3 := cell_of_block_ (i := 3) VN5); (have y4 := cell_of_block_ (i := 4) VN5); (have y5 := cell_of_block_ (i := 5) VN5); (have y6 := cell_of_block_ (i := 6) VN5); (have y7 := cell_of_block_ (i := 7) VN5); (have y8 := cell_of_block_ (i := 8) VN5); (have y9 := cell_of_block_ (i := 9) VN5); (have y10 := cell_of_block_ (i := 10) VN5); (simp at y0 y1 y2 y3 y4 y5 y6 y7 y8 y9 y10); (have N1 := Lib.hid n1); (have N2 := Lib.hid n2); (have N3 := Lib.hid n3); (have N4 := Lib.hid n4); (have N5 := Lib.hid n5); (have N6 := Lib.hid n6); (clear n1 n2 n3 n4 n5 n6 VN5 hown5 hg5 R RB RD VQ k0 k1 k2 k3 k4 k5 k6 k7 k8 k9 k10))
          | (go_at_call 43; refine (SI.out _).mono ?_; clear SI; (rintro e w6 ⟨rfl, b6⟩); (have V6 := (b6.block N (by omega)).trans N2.out); (have B6 := Lib.hid b6); (simp only [Q.Qm.silent, Q.Qm.cells]); (clear b6))
          | (refine wpList_store_blk rfl 28 (.tmp 2) (.tmp 43) rfl N 0 (Q.Qm.silent (⟨ck, rt, true, ⟨⟨p0, p1, p2, p3, p4⟩, a0, c0, a1, c1⟩, be, en, items, ai, ci⟩ : Q.Qm)).cells.toArray (⟨ck, rt, true, ⟨⟨p0, p1, p2, p3, p4⟩, a0, c0, a1, c1⟩, be, en, items, ai, ci⟩ : Q.Qm).cells.toArray 28 ?hx ?hy ?hv (by simp [Q.Qm.cells]) (by simpa [Q.Qm.cells] using HIQ.out) (by simp [Value.oneCell', Q.Qm.cells]) ?_; (case hx => rfl); (case hy => rfl); (case hv => exact V6); intro w7 hv7 hg7))
        have hc7 : putAt (⟨ck, rt, true, ⟨⟨p0, p1, p2, p3, p4⟩, a0, c0, a1, c1⟩, be, en, items, ai, ci⟩ : Q.Qm).cells.toArray.toList 0 (Q.Qm.silent (⟨ck, rt, true, ⟨⟨p0, p1, p2, p3, p4⟩, a0, c0, a1, c1⟩, be, en, items, ai, ci⟩ : Q.Qm)).cells.toArray.toList = (Q.Qm.silent (⟨ck, rt, true, ⟨⟨p0, p1, p2, p3, p4⟩, a0, c0, a1, c1⟩, be, en, items, ai, ci⟩ : Q.Qm)).cells := by simp [putAt, Q.Qm.cells]
        rw [hc7] at hv7
        have b67 := B6.out
        have b7 : Below N w6 w7 := below_of_only hg7 (Nat.le_refl N) (by have := b67.size; omega)
        have bN6 : Below N w5 w6 := b67.mono (by omega)
        have HC2 : Q.Qa.Clean (Q.Qm.a (Q.Qm.silent (⟨ck, rt, true, ⟨⟨p0, p1, p2, p3, p4⟩, a0, c0, a1, c1⟩, be, en, items, ai, ci⟩ : Q.Qm))) := fun _ => ⟨rfl, rfl, rfl⟩
        have R7 : Q.RI N w time a0' (Q.Qm.silent (⟨ck, rt, true, ⟨⟨p0, p1, p2, p3, p4⟩, a0, c0, a1, c1⟩, be, en, items, ai, ci⟩ : Q.Qm)) en (ss ++ [(⟨⟨⟨p0, p1, p2, p3, p4⟩, a0, c0, a1, c1⟩, be, en, true⟩ : Q.Sm)]) A5 c5 w7 := ⟨(N1.out.trans bN6).trans b7, hv7, (hg7.block (N + 1) (by have := b67.size; omega) (by simp)).trans ((b67.block (N + 1) (by omega)).trans N3.out), ((N4.out.below b67 (by omega)).far V6 hg7 (Nat.le_refl N) (by have := b67.size; omega)).silent, own_far (own_under N5.out b67) V6 (by decide) hg7, fun s hs => ((N6.out s hs).below bN6 (Nat.le_refl _)).below b7 (Nat.le_refl _), HRN.out _ rfl, HC2, HSL.out, (fun e => by cases e), (by simp only [Q.Qm.silent, List.length_append, List.length_cons, List.length_nil]; simp; omega), (by have := hg7.size; have := b67.size; omega)⟩
        go_wp2_with fail
        go_roundg (2 * items.length + 0)
        case measure => rw [hg.out]; simp
        case rel => exact ⟨Q.Qm.silent (⟨ck, rt, true, ⟨⟨p0, p1, p2, p3, p4⟩, a0, c0, a1, c1⟩, be, en, items, ai, ci⟩ : Q.Qm), en, ss ++ [(⟨⟨⟨p0, p1, p2, p3, p4⟩, a0, c0, a1, c1⟩, be, en, true⟩ : Q.Sm)], A5, c5, by rw [List.length_append]; rfl, rfl, HEN, Lib.hid (by simp [Q.Qm.silent]), Lib.hid R7⟩
    | false =>
      rcases items with _ | ⟨⟨⟨u0, u1, u2, u3, u4⟩, d0, e0, d1, e1⟩, items⟩
      · have g1 : (((0 : Nat) : Int) == 0) = true := rfl
        have HR : Hid (Q.toQ time rt (Q.ofQ (Q.Qm.a (⟨ck, rt, false, ⟨⟨p0, p1, p2, p3, p4⟩, a0, c0, a1, c1⟩, be, en, [], ai, ci⟩ : Q.Qm))) = (a0'.adv time).1 ∧ ss.map Q.Sm.a = (a0'.adv time).2) := Lib.hid (by
          have := R.out.run
          rw [Q.still_nil rfl rfl] at this
          exact ⟨congrArg Prod.fst this, by simpa using congrArg Prod.snd this⟩)
        have f0 := unfrozen_of_block VQ 0
        have V1 := block_setCell (i := 0) VQ (.int .i64 time)
        have hgA : wr.grownBy (wr.setCell ⟨N, 0, none⟩ (.int .i64 time)) (some N) := only_setCell (World.grownBy.refl wr (some N)) (.inl rfl) _
        have R2 := R.out.put (q' := (⟨ck, rt, false, ⟨⟨p0, p1, p2, p3, p4⟩, a0, c0, a1, c1⟩, be, en, [], ai, ci⟩ : Q.Qm).at time) (now' := now) hgA (by simpa [Q.Qm.cells, Q.Qm.at] using V1) (show Q.QMix wr N ((⟨ck, rt, false, ⟨⟨p0, p1, p2, p3, p4⟩, a0, c0, a1, c1⟩, be, en, [], ai, ci⟩ : Q.Qm).at time) from ⟨R.out.mix.cur, R.out.mix.el, R.out.mix.row, R.out.mix.hi⟩) R.out.run R.out.clean R.out.sml R.out.en R.out.len
        obtain ⟨W2, hW2⟩ : ∃ W2, wr.setCell ⟨N, 0, none⟩ (.int .i64 time) = W2 := ⟨_, rfl⟩
        rw [hW2] at R2
        have V2 := R2.vq
        simp only [Q.Qm.cells, Q.Qm.at] at V2
        have R3 := Lib.hid R2
        have HA : Hid (Q.Qa.Clean (Q.Qm.a (⟨ck, rt, false, ⟨⟨p0, p1, p2, p3, p4⟩, a0, c0, a1, c1⟩, be, en, [], ai, ci⟩ : Q.Qm))) := Lib.hid R.out.clean
        have y0 := cell_of_block_ (i := 0) V2
        have y1 := cell_of_block_ (i := 1) V2
        have y2 := cell_of_block_ (i := 2) V2
        have y3 := cell_of_block_ (i := 3) V2
        have y4 := cell_of_block_ (i := 4) V2
        have y5 := cell_of_block_ (i := 5) V2
        have y6 := cell_of_block_ (i := 6) V2
        have y7 := cell_of_block_ (i := 7) V2
        have y8 := cell_of_block_ (i := 8) V2
        have y9 := cell_of_block_ (i := 9) V2
        have y10 := cell_of_block_ (i := 10) V2
        simp at y0 y1 y2 y3 y4 y5 y6 y7 y8 y9 y10
        try simp only [List.length_nil, List.length_cons] at y10 k10
        clear V1 V2 VQ R2 hgA R hg hnow
        go_wp2_with (refine wpList_store_blk rfl 28 (.tmp 4) (.tmp 63) rfl (N + 1) 0 #[.int .i64 time, .int .i64 rt, .bool false, .slice a0 p0.length c0, .slice a1 p1.length c1, .int .i64 p2, .int .i64 p3, .int .i64 p4, .int .i64 be, .int .i64 en, .slice ai 0 ci] (Q.new 0 0) 28 ?hx ?hy ?hv (by simp) HIQ.out (by simp [Value.oneCell']) ?_; (case hx => rfl); (case hy => rfl); (case hv => exact R3.out.vr); intro w9 hv9 hg9; (simp [putAt] at hv9))
        have r0 := cell_of_block_ (i := 0) hv9
        have r1 := cell_of_block_ (i := 1) hv9
        have r2 := cell_of_block_ (i := 2) hv9
        have r3 := cell_of_block_ (i := 3) hv9
        have r4 := cell_of_block_ (i := 4) hv9
        have r5 := cell_of_block_ (i := 5) hv9
        have r6 := cell_of_block_ (i := 6) hv9
        have r7 := cell_of_block_ (i := 7) hv9
        have r8 := cell_of_block_ (i := 8) hv9
        have r9 := cell_of_block_ (i := 9) hv9
        have r10 := cell_of_block_ (i := 10) hv9
        simp at r0 r1 r2 r3 r4 r5 r6 r7 r8 r9 r10
        have b9 : Below N W2 w9 := below_of_only hg9 (Nat.le_succ N) (by have := R3.out.sz; omega)
        refine bodyPost_ret (v := .tuple #[.agg #[.int .i64 time, .int .i64 rt, .bool false, .slice a0 p0.length c0, .slice a1 p1.length c1, .int .i64 p2, .int .i64 p3, .int .i64 p4, .int .i64 be, .int .i64 en, .slice ai 0 ci], .slice A ss.length c, .int .i64 0]) (by simp [results, Try.results25, go_sem, r0, r1, r2, r3, r4, r5, r6, r7, r8, r9, r10]) rfl ⟨(⟨ck, rt, false, ⟨⟨p0, p1, p2, p3, p4⟩, a0, c0, a1, c1⟩, be, en, [], ai, ci⟩ : Q.Qm).at time, A, c, ss, rfl, ?_, HR.out.2, ?_, ⟨?_, ?_⟩, (own_cap_ R3.out.row), ?_⟩
        · rw [← HR.out.1]; exact (Q.toQ_ofQ HA.out time).symm
        · exact (R3.out.mix.far R3.out.vr hg9 (Nat.le_succ N) (by have := R3.out.sz; omega)).qin (by have := hg9.size; have := R3.out.sz; omega)
        · obtain ⟨A1, c1', e1', r1', _⟩ := own_reads_cap (own_far R3.out.row R3.out.vr (by decide) hg9)
          injection e1' with e1' _ _
          subst e1'
          exact r1'
        · exact fun s hs => ((R3.out.us s hs).below b9 (Nat.le_refl _)).more (by have := hg9.size; have := R3.out.sz; omega)
        · rw [HN.out]; exact R3.out.be.trans b9
      · have hits := (R.out.mix.qin (by omega)).items
        obtain ⟨b, off, rfl, hbB, hcl⟩ := Q.reads_at hits.row (by simp)
        obtain ⟨z0, z1, z2, z3, z4⟩ := hcl 0 (by simp)
        simp only [Nat.zero_mul, Nat.add_zero, List.getElem_cons_zero] at z0 z1 z2 z3 z4
        have q1 : (0 : Int) < ((items.length + 1 : Nat) : Int) := by omega
        have q3 : (((items.length + 1 : Nat) : Int) == 0) = false := beq_eq_false_iff_ne.2 (by omega)
        simp only [List.length_cons] at k10
        clear hcl hits
        by_cases h1 : time < max now u3
        · have g1 : decide (time < max now u3) = true := decide_eq_true h1
          have HR : Hid (Q.toQ time rt (Q.ofQ (Q.Qm.a (⟨ck, rt, false, ⟨⟨p0, p1, p2, p3, p4⟩, a0, c0, a1, c1⟩, be, en, ⟨⟨u0, u1, u2, u3, u4⟩, d0, e0, d1, e1⟩ :: items, some ⟨b, off, none⟩, ci⟩ : Q.Qm))) = (a0'.adv time).1 ∧ ss.map Q.Sm.a = (a0'.adv time).2) := Lib.hid (by
            have := R.out.run
            rw [Q.still_late rfl rfl h1] at this
            exact ⟨congrArg Prod.fst this, by simpa using congrArg Prod.snd this⟩)
          have f0 := unfrozen_of_block VQ 0
          have V1 := block_setCell (i := 0) VQ (.int .i64 time)
          have hgA : wr.grownBy (wr.setCell ⟨N, 0, none⟩ (.int .i64 time)) (some N) := only_setCell (World.grownBy.refl wr (some N)) (.inl rfl) _
          have R2 := R.out.put (q' := (⟨ck, rt, false, ⟨⟨p0, p1, p2, p3, p4⟩, a0, c0, a1, c1⟩, be, en, ⟨⟨u0, u1, u2, u3, u4⟩, d0, e0, d1, e1⟩ :: items, (some ⟨b, off, none⟩), ci⟩ : Q.Qm).at time) (now' := now) hgA (by simpa [Q.Qm.cells, Q.Qm.at] using V1) (show Q.QMix wr N ((⟨ck, rt, false, ⟨⟨p0, p1, p2, p3, p4⟩, a0, c0, a1, c1⟩, be, en, ⟨⟨u0, u1, u2, u3, u4⟩, d0, e0, d1, e1⟩ :: items, (some ⟨b, off, none⟩), ci⟩ : Q.Qm).at time) from ⟨R.out.mix.cur, R.out.mix.el, R.out.mix.row, R.out.mix.hi⟩) R.out.run R.out.clean R.out.sml R.out.en R.out.len
          obtain ⟨W2, hW2⟩ : ∃ W2, wr.setCell ⟨N, 0, none⟩ (.int .i64 time) = W2 := ⟨_, rfl⟩
          rw [hW2] at R2
          have V2 := R2.vq
          simp only [Q.Qm.cells, Q.Qm.at] at V2
          have R3 := Lib.hid R2
          have HA : Hid (Q.Qa.Clean (Q.Qm.a (⟨ck, rt, false, ⟨⟨p0, p1, p2, p3, p4⟩, a0, c0, a1, c1⟩, be, en, ⟨⟨u0, u1, u2, u3, u4⟩, d0, e0, d1, e1⟩ :: items, (some ⟨b, off, none⟩), ci⟩ : Q.Qm))) := Lib.hid R.out.clean
          have y0 := cell_of_block_ (i := 0) V2
          have y1 := cell_of_block_ (i := 1) V2
          have y2 := cell_of_block_ (i := 2) V2
          have y3 := cell_of_block_ (i := 3) V2
          have y4 := cell_of_block_ (i := 4) V2
          have y5 := cell_of_block_ (i := 5) V2
          have y6 := cell_of_block_ (i := 6) V2
          have y7 := cell_of_block_ (i := 7) V2
          have y8 := cell_of_block_ (i := 8) V2
          have y9 := cell_of_block_ (i := 9) V2
          have y10 := cell_of_block_ (i := 10) V2
          simp at y0 y1 y2 y3 y4 y5 y6 y7 y8 y9 y10
          try simp only [List.length_nil, List.length_cons] at y10 k10
          clear V1 V2 VQ R2 hgA R hg hnow h1
          go_wp2_with (refine wpList_store_blk rfl 28 (.tmp 4) (.tmp 63) rfl (N + 1) 0 #[.int .i64 time, .int .i64 rt, .bool false, .slice a0 p0.length c0, .slice a1 p1.length c1, .int .i64 p2, .int .i64 p3, .int .i64 p4, .int .i64 be, .int .i64 en, .slice (some ⟨b, off, none⟩) (items.length + 1) ci] (Q.new 0 0) 28 ?hx ?hy ?hv (by simp) HIQ.out (by simp [Value.oneCell']) ?_; (case hx => rfl); (case hy => rfl); (case hv => exact R3.out.vr); intro w9 hv9 hg9; (simp [putAt] at hv9))
          have r0 := cell_of_block_ (i := 0) hv9
          have r1 := cell_of_block_ (i := 1) hv9
          have r2 := cell_of_block_ (i := 2) hv9
          have r3 := cell_of_block_ (i := 3) hv9
          have r4 := cell_of_block_ (i := 4) hv9
          have r5 := cell_of_block_ (i := 5) hv9
          have r6 := cell_of_block_ (i := 6) hv9
          have r7 := cell_of_block_ (i := 7) hv9
          have r8 := cell_of_block_ (i := 8) hv9
          have r9 := cell_of_block_ (i := 9) hv9
          have r10 := cell_of_block_ (i := 10) hv9
          simp at r0 r1 r2 r3 r4 r5 r6 r7 r8 r9 r10
          have b9 : Below N W2 w9 := below_of_only hg9 (Nat.le_succ N) (by have := R3.out.sz; omega)
          refine bodyPost_ret (v := .tuple #[.agg #[.int .i64 time, .int .i64 rt, .bool false, .slice a0 p0.length c0, .slice a1 p1.length c1, .int .i64 p2, .int .i64 p3, .int .i64 p4, .int .i64 be, .int .i64 en, .slice (some ⟨b, off, none⟩) (items.length + 1) ci], .slice A ss.length c, .int .i64 0]) (by simp [results, Try.results25, go_sem, r0, r1, r2, r3, r4, r5, r6, r7, r8, r9, r10]) rfl ⟨(⟨ck, rt, false, ⟨⟨p0, p1, p2, p3, p4⟩, a0, c0, a1, c1⟩, be, en, ⟨⟨u0, u1, u2, u3, u4⟩, d0, e0, d1, e1⟩ :: items, (some ⟨b, off, none⟩), ci⟩ : Q.Qm).at time, A, c, ss, rfl, ?_, HR.out.2, ?_, ⟨?_, ?_⟩, (own_cap_ R3.out.row), ?_⟩
          · rw [← HR.out.1]; exact (Q.toQ_ofQ HA.out time).symm
          · exact (R3.out.mix.far R3.out.vr hg9 (Nat.le_succ N) (by have := R3.out.sz; omega)).qin (by have := hg9.size; have := R3.out.sz; omega)
          · obtain ⟨A1, c1', e1', r1', _⟩ := own_reads_cap (own_far R3.out.row R3.out.vr (by decide) hg9)
            injection e1' with e1' _ _
            subst e1'
            exact r1'
          · exact fun s hs => ((R3.out.us s hs).below b9 (Nat.le_refl _)).more (by have := hg9.size; have := R3.out.sz; omega)
          · rw [HN.out]; exact R3.out.be.trans b9
        · have g1 : decide (time < max now u3) = false := decide_eq_false h1
          have SX := R.out.sml.2.2 ⟨u0, u1, u2, u3, u4⟩ (by simp [Q.Qm.a])
          have hnw := hnow.out
          have hmx : 0 ≤ max now u3 ∧ max now u3 ≤ 1099511627776 := by omega
          have DX := Q.Small.dur SX rt
          have RX := Lib.hid (Q.Small.ready SX (r := rt) hmx.1 (Int.le_trans hmx.2 (by decide)))
          have HRN : Hid ((Q.toQ time rt (Q.still time (max now u3) ((Q.Qm.a (⟨ck, rt, false, ⟨⟨p0, p1, p2, p3, p4⟩, a0, c0, a1, c1⟩, be, en, ⟨⟨u0, u1, u2, u3, u4⟩, d0, e0, d1, e1⟩ :: items, some ⟨b, off, none⟩, ci⟩ : Q.Qm)).begin (max now u3))).1, ss.map Q.Sm.a ++ (Q.still time (max now u3) ((Q.Qm.a (⟨ck, rt, false, ⟨⟨p0, p1, p2, p3, p4⟩, a0, c0, a1, c1⟩, be, en, ⟨⟨u0, u1, u2, u3, u4⟩, d0, e0, d1, e1⟩ :: items, some ⟨b, off, none⟩, ci⟩ : Q.Qm)).begin (max now u3))).2.map Q.toSa) = a0'.adv time) := Lib.hid (by rw [← Q.still_begin (a := Q.Qm.a (⟨ck, rt, false, ⟨⟨p0, p1, p2, p3, p4⟩, a0, c0, a1, c1⟩, be, en, ⟨⟨u0, u1, u2, u3, u4⟩, d0, e0, d1, e1⟩ :: items, some ⟨b, off, none⟩, ci⟩ : Q.Qm)) rfl rfl h1]; exact R.out.run)
          have HSL : Hid (Q.Qa.Sml ((Q.Qm.a (⟨ck, rt, false, ⟨⟨p0, p1, p2, p3, p4⟩, a0, c0, a1, c1⟩, be, en, ⟨⟨u0, u1, u2, u3, u4⟩, d0, e0, d1, e1⟩ :: items, some ⟨b, off, none⟩, ci⟩ : Q.Qm)).begin (max now u3))) := Lib.hid (Q.begin_sml R.out.sml _)
          have HLN : ss.length + items.length + 1 ≤ 17 := by have := R.out.len; simp at this; omega
          have BD := Lib.hid (refbegin_any (⟨ck, rt, false, ⟨⟨p0, p1, p2, p3, p4⟩, a0, c0, a1, c1⟩, be, en, ⟨⟨u0, u1, u2, u3, u4⟩, d0, e0, d1, e1⟩ :: items, some ⟨b, off, none⟩, ci⟩ : Q.Qm) (max now u3) ⟨⟨u0, u1, u2, u3, u4⟩, d0, e0, d1, e1⟩ items N wr R.out.mix (by omega) rfl (by simp only [List.length_cons]; omega) RX.out.1 RX.out.2.1 RX.out.2.2)
          obtain ⟨mx, hmxe⟩ : ∃ mx, max now u3 = mx := ⟨_, rfl⟩
          simp only [Q.Qm.cells, List.length_cons] at BD
          rw [hmxe] at BD HRN HSL hmx g1
          have HMX : Hid (0 ≤ mx) := Lib.hid hmx.1
          have HDX := Lib.hid DX
          have HRB := Lib.hid R.out
          clear h1 SX RX R VQ DX hnw hmx
          go_wp2_with (first
            | (go_at_call 46; refine BD.out.mono ?_; clear BD; rintro e w6 ⟨⟨ck6, rt6, sp6, ⟨⟨x0, x1, x2, x3, x4⟩, f0', f1', f2', f3'⟩, be6, en6, it6, ai6, ci6⟩, rfl, e6, m6, b6⟩; (have R6 := Lib.hid (HRB.out.below b6)); (have M6 := Lib.hid m6); (simp only [Q.Qm.cells]); clear b6 m6)
            | (refine wpList_store_blk rfl 28 (.tmp 2) (.tmp 60) rfl N 0 #[.int .i64 ck6, .int .i64 rt6, .bool sp6, .slice f0' x0.length f1', .slice f2' x1.length f3', .int .i64 x2, .int .i64 x3, .int .i64 x4, .int .i64 be6, .int .i64 en6, .slice ai6 it6.length ci6] (⟨ck, rt, false, ⟨⟨p0, p1, p2, p3, p4⟩, a0, c0, a1, c1⟩, be, en, ⟨⟨u0, u1, u2, u3, u4⟩, d0, e0, d1, e1⟩ :: items, some ⟨b, off, none⟩, ci⟩ : Q.Qm).cells.toArray 28 ?hx ?hy ?hv (by simp [Q.Qm.cells]) HIQ.out (by simp [Value.oneCell']) ?_; (case hx => rfl); (case hy => rfl); (case hv => exact R6.out.vq); intro w7 hv7 hg7; (simp [putAt, Q.Qm.cells] at hv7)))
          have E6 := e6
          simp only [Q.Qm.a, Q.Qa.begin, List.map_cons, Q.Qa.mk.injEq] at e6
          obtain ⟨rfl, rfl, rfl, ecu, rfl, een, eit⟩ := e6
          have hil : it6.length = items.length := by have := congrArg List.length eit; simpa using this
          have R7 := R6.out.put (q' := ⟨ck6, rt6, true, ⟨⟨x0, x1, x2, x3, x4⟩, f0', f1', f2', f3'⟩, be6, en6, it6, ai6, ci6⟩) (now' := be6) hg7 hv7 M6.out (by rw [E6]; exact HRN.out) (fun hs => by cases hs) (by rw [E6]; exact HSL.out) (fun _ => by simp only; rw [een]; have := HMX.out; have := HDX.out; omega) (by simp only [if_true]; omega)
          go_wp2_with fail
          go_roundg (2 * items.length + 1)
          case measure => rw [hg.out]; simp; omega
          case rel => exact ⟨_, be6, ss, A, c, rfl, rfl, HMX, Lib.hid (by simp [hil]), Lib.hid R7⟩
set_option maxRecDepth 100000 in
set_option maxHeartbeats 1500000 in
theorem refadvance_late (q : Q.Qm) (time : Int) (w : World) (n : Int) (hn : (time < 0 ∨ 1099511627776 < time) ∧ n = 2 ∨ ¬ (time < 0 ∨ 1099511627776 < time) ∧ time < q.clock ∧ n = 10) :
    Calls Try.prog 25 #[.agg q.cells.toArray, .int .i64 time] w fun e w' => Q.AOut (Q.qz, [], n) w w' e := by
  obtain ⟨ck, rt, sp, ⟨⟨p0, p1, p2, p3, p4⟩, a0, c0, a1, c1⟩, be, en, items, ai, ci⟩ := q
  simp only [Q.Qm.cells] at hn ⊢
  have b0 := Lib.hid ((below_box w (.cells #[.int .i64 ck, .int .i64 rt, .bool sp, .slice a0 p0.length c0, .slice a1 p1.length c1, .int .i64 p2, .int .i64 p3, .int .i64 p4, .int .i64 be, .int .i64 en, .slice ai items.length ci] 28)).alloc (by simp) (.cells (Q.new 0 0) 28))
  have V1 := heap_alloc_new (w.alloc (.cells #[.int .i64 ck, .int .i64 rt, .bool sp, .slice a0 p0.length c0, .slice a1 p1.length c1, .int .i64 p2, .int .i64 p3, .int .i64 p4, .int .i64 be, .int .i64 en, .slice ai items.length ci] 28)) (.cells (Q.new 0 0) 28)
  rw [World.size_alloc] at V1
  replace V1 := Lib.hid V1
  have HIQ := Lib.hid infoQ
  rcases hn with ⟨hn, rfl⟩ | ⟨hn, hlt, rfl⟩
  · by_cases h1 : time < 0
    · have b1 := Lib.hid b0.out
      have g1 : decide (time < 0) = true := decide_eq_true h1
      clear hn h1
      go_enter Try.func25, Try.ntmps25
      go_wp2_with (refine wpList_store_blk rfl 28 (.tmp 4) (.tmp 15) rfl (w.heap.size + 1) 0 (Q.new 0 0) (Q.new 0 0) 28 ?hx ?hy ?hv (by simp) HIQ.out (by simp [Value.oneCell']) ?_; (case hx => rfl); (case hy => rfl); (case hv => exact V1.out); intro w9 hv9 hg9; (simp [putAt] at hv9))
      have r0 := cell_of_block_ (i := 0) hv9
      have r1 := cell_of_block_ (i := 1) hv9
      have r2 := cell_of_block_ (i := 2) hv9
      have r3 := cell_of_block_ (i := 3) hv9
      have r4 := cell_of_block_ (i := 4) hv9
      have r5 := cell_of_block_ (i := 5) hv9
      have r6 := cell_of_block_ (i := 6) hv9
      have r7 := cell_of_block_ (i := 7) hv9
      have r8 := cell_of_block_ (i := 8) hv9
      have r9 := cell_of_block_ (i := 9) hv9
      have r10 := cell_of_block_ (i := 10) hv9
      simp at r0 r1 r2 r3 r4 r5 r6 r7 r8 r9 r10
      have BE9 := b0.out.trans (below_of_only hg9 (Nat.le_succ _) (by simp; omega))
      exact bodyPost_ret (v := .tuple #[.agg (Q.new 0 0), .slice none 0 0, .int .i64 2]) (by simp [results, Try.results25, go_sem, r0, r1, r2, r3, r4, r5, r6, r7, r8, r9, r10]) rfl (Q.aout_zero _ BE9)
    · have b1 := Lib.hid b0.out
      have g1 : decide (time < 0) = false := decide_eq_false h1
      have g2 : decide (1099511627776 < time) = true := decide_eq_true (by omega)
      clear hn h1
      go_enter Try.func25, Try.ntmps25
      go_wp2_with (refine wpList_store_blk rfl 28 (.tmp 4) (.tmp 15) rfl (w.heap.size + 1) 0 (Q.new 0 0) (Q.new 0 0) 28 ?hx ?hy ?hv (by simp) HIQ.out (by simp [Value.oneCell']) ?_; (case hx => rfl); (case hy => rfl); (case hv => exact V1.out); intro w9 hv9 hg9; (simp [putAt] at hv9))
      have r0 := cell_of_block_ (i := 0) hv9
      have r1 := cell_of_block_ (i := 1) hv9
      have r2 := cell_of_block_ (i := 2) hv9
      have r3 := cell_of_block_ (i := 3) hv9
      have r4 := cell_of_block_ (i := 4) hv9
      have r5 := cell_of_block_ (i := 5) hv9
      have r6 := cell_of_block_ (i := 6) hv9
      have r7 := cell_of_block_ (i := 7) hv9
      have r8 := cell_of_block_ (i := 8) hv9
      have r9 := cell_of_block_ (i := 9) hv9
      have r10 := cell_of_block_ (i := 10) hv9
      simp at r0 r1 r2 r3 r4 r5 r6 r7 r8 r9 r10
      have BE9 := b0.out.trans (below_of_only hg9 (Nat.le_succ _) (by simp; omega))
      exact bodyPost_ret (v := .tuple #[.agg (Q.new 0 0), .slice none 0 0, .int .i64 2]) (by simp [results, Try.results25, go_sem, r0, r1, r2, r3, r4, r5, r6, r7, r8, r9, r10]) rfl (Q.aout_zero _ BE9)
  · have b1 := Lib.hid b0.out
    have g1 : decide (time < 0) = false := decide_eq_false (by omega)
    have g2 : decide (1099511627776 < time) = false := decide_eq_false (by omega)
    have g3 : decide (time < ck) = true := decide_eq_true hlt
    clear hn hlt
    go_enter Try.func25, Try.ntmps25
    go_wp2_with (refine wpList_store_blk rfl 28 (.tmp 4) (.tmp 20) rfl (w.heap.size + 1) 0 (Q.new 0 0) (Q.new 0 0) 28 ?hx ?hy ?hv (by simp) HIQ.out (by simp [Value.oneCell']) ?_; (case hx => rfl); (case hy => rfl); (case hv => exact V1.out); intro w9 hv9 hg9; (simp [putAt] at hv9))
    have r0 := cell_of_block_ (i := 0) hv9
    have r1 := cell_of_block_ (i := 1) hv9
    have r2 := cell_of_block_ (i := 2) hv9
    have r3 := cell_of_block_ (i := 3) hv9
    have r4 := cell_of_block_ (i := 4) hv9
    have r5 := cell_of_block_ (i := 5) hv9
    have r6 := cell_of_block_ (i := 6) hv9
    have r7 := cell_of_block_ (i := 7) hv9
    have r8 := cell_of_block_ (i := 8) hv9
    have r9 := cell_of_block_ (i := 9) hv9
    have r10 := cell_of_block_ (i := 10) hv9
    simp at r0 r1 r2 r3 r4 r5 r6 r7 r8 r9 r10
    have BE9 := b0.out.trans (below_of_only hg9 (Nat.le_succ _) (by simp; omega))
    exact bodyPost_ret (v := .tuple #[.agg (Q.new 0 0), .slice none 0 0, .int .i64 10]) (by simp [results, Try.results25, go_sem, r0, r1, r2, r3, r4, r5, r6, r7, r8, r9, r10]) rfl (Q.aout_zero _ BE9)
theorem refadvance_any (q : Q.Qm) (time : Int) (B : Nat) (w : World) (h : Q.QIn w B q) (hB : B ≤ w.heap.size) (hsml : q.a.Sml) (hchk : Q.chk q.a = 0) :
    Calls Try.prog 25 #[.agg q.cells.toArray, .int .i64 time] w fun e w' => Q.AOut (q.a.advR time) w w' e := by
  unfold Q.Qa.advR
  by_cases h1 : time < 0 ∨ 1099511627776 < time
  · rw [if_pos h1]
    exact refadvance_late q time w 2 (.inl ⟨h1, rfl⟩)
  · rw [if_neg h1]
    by_cases h2 : time < q.a.clock
    · rw [if_pos h2]
      exact refadvance_late q time w 10 (.inr ⟨h1, h2, rfl⟩)
    · rw [if_neg h2]
      exact refadvance_ok q time B w h hB hsml hchk (by omega) (by omega) (by show q.a.clock ≤ time; omega)
end Go.Proofs.Ytfjkelngdljikaa
