/-
  The walks of layer 44: Advance. By an AI agent.
-/
import Derived.Test.YtfjkelngdljikaaAp
import Derived.Test.YtfjkelngdljikaaRd
import Derived.Test.YtfjkelngdljikaaRk
import Derived.Test.YtfjkelngdljikaaCh4
namespace Go.Proofs.Ytfjkelngdljikaa
set_option linter.unusedVariables false
set_option linter.unusedSimpArgs false
open Go.RowKit Go.Joins Go.Deep Go.Shelf

attribute [local go_sem] Oper.semAt_some

/-- Rows stay where a block below them, or one that holds no cells, is turned. -/
theorem own_turn {A B : World} {base s n : Nat} {e : TypeId} {v : Value} {xs : List Value} {row : Option Nat} (h : A.ownsRow base e s v n xs) (hg : A.grownBy B row) (hr : ∀ r, row = some r → r < base ∨ ∃ o : Obj, A.heap[r]? = some o ∧ o.isCells = false) : B.ownsRow base e s v n xs := by
  refine h.kept hg ?_
  cases hv : v.ownBlock with
  | none => exact .inl rfl
  | some g =>
    refine .inr (fun hh => ?_)
    rcases hr g hh.symm with h1 | ⟨o, h1, h2⟩
    · have := (h.lt g hv).1; omega
    · obtain ⟨cur, h3⟩ := own_type h hv
      rw [h3] at h1
      cases h1
      cases h2
namespace Q
theorem UOwn.turn {A B : World} {base : Nat} {m : Um} {row : Option Nat} (h : UOwn A base m) (hg : A.grownBy B row) (hr : ∀ r, row = some r → r < base ∨ ∃ o : Obj, A.heap[r]? = some o ∧ o.isCells = false) : UOwn B base m :=
  ⟨own_turn h.ow hg hr, let ⟨ys, ey, oy, gy⟩ := h.oc; ⟨ys, ey, own_turn oy hg hr, fun y hy => own_turn (gy y hy) hg hr⟩⟩
/-- What Advance's variables hold when pre has come. -/
structure AI (N M : Nat) (w : World) (q : Qm) (pre : List (Qm × Bool)) (W : World) : Prop where
  be : Below N w W
  vr : W.heap[N + 1]? = some (.cells (new 0 0) 28 (0, 0))
  rows : ∃ v ss, Boxed W M 45 v ∧ W.ownsRow (M + 4) 38 8 v ss.length (scs ss) ∧ ss.map Sm.a = sayF pre ∧ ∀ s ∈ ss, UOwn W (M + 4) s.m
  vl : W.heap[M + 1]? = some (.cells (lastF q pre).cells.toArray 28 (0, 0))
  sz : M + 4 ≤ W.heap.size
variable {N M : Nat} {w A B : World} {q : Qm} {pre : List (Qm × Bool)} {row : Option Nat}
theorem below_turn (hN : N ≤ A.heap.size) (hg : A.grownBy B row) (hr : ∀ r, row = some r → N ≤ r) : Below N A B :=
  ⟨hg.os, hg.tape, hg.output, hg.size, fun i hi => hg.block i (by omega) (fun e => by have := hr i e.symm; omega)⟩
theorem AI.turn (h : AI N M w q pre A) (hNM : N + 2 ≤ M) (hg : A.grownBy B row) (hr : ∀ r, row = some r → r = M + 1 + 1 ∨ (M + 4 ≤ r ∧ ∃ o : Obj, A.heap[r]? = some o ∧ o.isCells = false)) : AI N M w q pre B := by
  have hs := h.sz
  have hr' : ∀ r, row = some r → r < M + 4 ∨ ∃ o : Obj, A.heap[r]? = some o ∧ o.isCells = false := fun r e => by
    rcases hr r e with h1 | h1
    · exact .inl (by omega)
    · exact .inr h1.2
  have far : ∀ k, k < M + 4 → k ≠ M + 1 + 1 → B.heap[k]? = A.heap[k]? := fun k h1 h2 => hg.block k (by omega) (fun e => by rcases hr k e.symm with h3 | h3 <;> omega)
  obtain ⟨v, ss, h1, h2, h3, h4⟩ := h.rows
  exact ⟨h.be.trans (below_turn (by omega) hg (fun r e => by rcases hr r e with h1 | h1 <;> omega)), (far _ (by omega) (by omega)).trans h.vr, ⟨v, ss, (far _ (by omega) (by omega)).trans h1, own_turn h2 hg hr', h3, fun s hs => (h4 s hs).turn hg hr'⟩, (far _ (by omega) (by omega)).trans h.vl, Nat.le_trans hs hg.size⟩
end Q
set_option maxHeartbeats 1000000 in
/-- moments: both parameters are boxed. -/
theorem moments_in (n : Nat) (C : Array Value) (time : Int) (w : World) :
    CallsIn Fence.wide n Try.prog 45 #[.agg C, .int .i64 time] w fun e w' => e = .returned (.func (.func 55) #[] #[.pointer (some ⟨w.heap.size, 0, none⟩), .pointer (some ⟨w.heap.size + 1, 0, none⟩)]) ∧ w' = (w.alloc (.cells C 28)).alloc (.cells #[.int .i64 time] 3) := by
  refine callsIn_of_wp Try.func45 rfl trivial ?_ rfl
  simp only [Try.ntmps45, List.size_toArray, List.length_cons, List.length_nil, Nat.reduceAdd, Nat.reduceSub, Array.replicate_succ, Array.replicate_zero, List.push_toArray, List.append_toArray, List.nil_append, List.cons_append]
  gi_wp2
  go_ret
  exact ⟨rfl, rfl⟩
theorem moments_gives (n : Nat) (hn : 1 ≤ n) (Bq Bt B : Nat) (time : Int) (q0 : Q.Qm) (hT : time ≤ 1099511627776) (hck : 0 ≤ q0.clock) (hl : q0.items.length ≤ 16) (hs : ∀ m ∈ q0.items, Q.Small m.u)
    (hne : Bt ≠ Bq) (hBq : B ≤ Bq) (w : World) (hm : Q.MI Bq Bt B time q0 q0 w) : Gives Fence.wide n Try.prog 55 #[.pointer (some ⟨Bq, 0, none⟩), .pointer (some ⟨Bt, 0, none⟩)] Q.yv (Q.ms time q0) Bq (Q.MK Bq Bt B) w :=
  fun l J W hb hJ hY h0 => moments1_any n hn l Bq Bt B time q0 hT hck hl hs hne hBq J hJ hY W h0 (hm.below hb)

/-- It is left normally. -/
theorem wp_normal {P : Program} {c : Code} {Q : Exit → Act → World → Prop} {a : Act} {w : World} (h : c.wp P (Exit.then (fun a w => Q .normal a w) (fun _ _ _ => False)) a w) : c.wp P Q a w :=
  wp_mono h fun e a w hh => by cases e <;> first | exact hh | exact hh.elim
theorem infoS : (Try.prog.info? 38).map (fun i => (i.zero, i.size, i.bytes)) = some (some (.agg #[.slice none 0 0, .slice none 0 0, .int .i64 0, .int .i64 0, .int .i64 0, .int .i64 0, .int .i64 0, .bool false]), 8, 96) := by kernel_rfl
namespace Q
theorem UOwn.cells38 {W W' : World} {base b' n : Nat} {v : Value} {xs : List Value} {m : Um} (h : UOwn W base m) (ho : W.ownsRow b' 38 8 v n xs) (hg : W.grownBy W' v.ownBlock) : UOwn W' base m :=
  ⟨kept_of h.ow hg (own_apart h.ow ho (by decide)), let ⟨ys, ey, oy, gy⟩ := h.oc; ⟨ys, ey, kept_of oy hg (own_apart oy ho (by decide)), fun y hy => kept_of (gy y hy) hg (own_apart (gy y hy) ho (by decide))⟩⟩
theorem UsOwn.turn {A B : World} {base : Nat} {a : Option Addr} {c : Nat} {l : List Um} {row : Option Nat} (h : UsOwn A base a c l) (hg : A.grownBy B row) (hr : ∀ r, row = some r → r < base ∨ ∃ o : Obj, A.heap[r]? = some o ∧ o.isCells = false) : UsOwn B base a c l :=
  ⟨own_turn h.row hg hr, fun m hm => (h.el m hm).turn hg hr⟩
theorem QOwn.turn {A B : World} {base : Nat} {q : Qm} {row : Option Nat} (h : QOwn A base q) (hg : A.grownBy B row) (hr : ∀ r, row = some r → r < base ∨ ∃ o : Obj, A.heap[r]? = some o ∧ o.isCells = false) : QOwn B base q :=
  ⟨h.cur.turn hg hr, h.items.turn hg hr⟩
theorem scs_snoc (l : List Sm) (x : Sm) : scs (l ++ [x]) = scs l ++ x.cells := by simp [scs]
/-- What holds while a report is appended. -/
structure AJ (N M : Nat) (w W : World) (q : Qm) (pre : List (Qm × Bool)) (By : Nat) (XC : Array Value) (v : Value) (ss : List Sm) (W' : World) : Prop where
  be : Below N w W'
  vr : W'.heap[N + 1]? = some (.cells (new 0 0) 28 (0, 0))
  bv : Boxed W' M 45 v
  rowv : W'.ownsRow (M + 4) 38 8 v ss.length (scs ss)
  us : ∀ s ∈ ss, UOwn W' (M + 4) s.m
  vl : W'.heap[M + 1]? = some (.cells (lastF q pre).cells.toArray 28 (0, 0))
  sz : M + 4 ≤ W'.heap.size
  vy : W'.heap[By]? = some (.cells XC 28 (0, 0))
  kf : KeepsFrom (M + 4) W W'
  mw : MK (M + 1 + 1) (M + 1 + 1 + 1) N W W'
variable {N M By : Nat} {w W W' W'' : World} {q : Qm} {pre : List (Qm × Bool)} {XC : Array Value} {v : Value} {ss : List Sm}
theorem AJ.below (h : AJ N M w W q pre By XC v ss W') (hNM : N + 2 ≤ M) (hb : Below W'.heap.size W' W'') : AJ N M w W q pre By XC v ss W'' := by
  have hs := h.sz
  have far : ∀ k, k < M + 4 → W''.heap[k]? = W'.heap[k]? := fun k hk => hb.block k (by omega)
  exact ⟨h.be.trans (hb.mono (by omega)), (far _ (by omega)).trans h.vr, (far _ (by omega)).trans h.bv, own_under h.rowv hb, fun s hs => (h.us s hs).under hb, (far _ (by omega)).trans h.vl, Nat.le_trans hs hb.size, (hb.block By (Array.getElem?_eq_some_iff.1 h.vy).1).trans h.vy, h.kf.trans (KeepsFrom.of_grownBy (below_grown hb) (by simp)), h.mw.trans ⟨far _ (by omega), far _ (by omega), hb.mono (by omega)⟩⟩
theorem AJ.fin (h : AJ N M w W q pre By XC v ss W') (hNM : N + 2 ≤ M) {s : Sm} (hm : UOwn W' (M + 4) s.m) {w5 : World} {v5 : Value} {x : Qm × Bool} (hx : x.2 = true) (hsx : s.a = ⟨x.1.cur.u, x.1.be, x.1.en, true⟩) (ess : ss.map Sm.a = sayF pre)
    (hown5 : w5.ownsRow (M + 4) 38 8 v5 (ss.length + 1) (scs ss ++ s.cells)) (hg5 : W'.grownBy w5 v.ownBlock) :
    KeepsFrom (M + 4) W (w5.setCell ⟨M, 0, none⟩ v5) ∧ MK (M + 1 + 1) (M + 1 + 1 + 1) N W (w5.setCell ⟨M, 0, none⟩ v5) ∧ AI N M w q (pre ++ [x]) (w5.setCell ⟨M, 0, none⟩ v5) := by
  have hs := h.sz
  have own_ge : ∀ g, v.ownBlock = some g → M + 4 ≤ g := fun g hg => (h.rowv.lt g hg).1
  have far : ∀ k, k < M + 4 → w5.heap[k]? = W'.heap[k]? := fun k hk => hg5.block k (by omega) (fun e => by have := own_ge k e.symm; omega)
  have hg6 : w5.grownBy (w5.setCell ⟨M, 0, none⟩ v5) (some M) := only_setCell (World.grownBy.refl w5 (some M)) (.inl rfl) v5
  have hs5 := Nat.le_trans hs hg5.size
  have far6 : ∀ k, k < M + 4 → k ≠ M → (w5.setCell ⟨M, 0, none⟩ v5).heap[k]? = W'.heap[k]? := fun k hk hne => (hg6.block k (by omega) (by simpa using hne)).trans (far k hk)
  have hrow : ∀ r, some M = some r → r < M + 4 ∨ ∃ o : Obj, w5.heap[r]? = some o ∧ o.isCells = false := fun r e => .inl (by injection e with e; omega)
  have b5 : Below N W' w5 := below_turn (by omega) hg5 (fun r e => by have := own_ge r e; omega)
  have b6 : Below N W' (w5.setCell ⟨M, 0, none⟩ v5) := b5.trans (below_turn (by omega) hg6 (fun r e => by injection e with e; omega))
  refine ⟨(h.kf.trans ?_).trans (KeepsFrom.of_grownBy hg6 (fun j e => by injection e with e; omega)), h.mw.trans ⟨far6 _ (by omega) (by omega), far6 _ (by omega) (by omega), b6⟩, h.be.trans b6, (far6 _ (by omega) (by omega)).trans h.vr, ⟨v5, ss ++ [s], ?_, ?_, ?_, ?_⟩, ?_, Nat.le_trans hs5 hg6.size⟩
  · refine ⟨hg5.size, fun k o hB hk ho => (hg5.block k (Array.getElem?_eq_some_iff.1 hk).1 (fun e => ?_)).trans hk⟩
    obtain ⟨cur, h1⟩ := own_type h.rowv e.symm
    rw [h1] at hk; cases hk; cases ho
  · have : Boxed w5 M 45 v := (far M (by omega)).trans h.bv
    exact this.set v5
  · rw [List.length_append, scs_snoc]
    exact own_turn hown5 hg6 hrow
  · rw [List.map_append, ess, sayF_snoc, if_pos hx, List.map_cons, List.map_nil, hsx]
  · intro s' hs'
    rcases List.mem_append.1 hs' with hs' | hs'
    · exact ((h.us s' hs').cells38 h.rowv hg5).turn hg6 hrow
    · simp only [List.mem_singleton] at hs'
      subst hs'
      exact (hm.cells38 h.rowv hg5).turn hg6 hrow
  · rw [lastF_snoc, if_pos hx]
    exact (far6 _ (by omega) (by omega)).trans h.vl
end Q

/-- A queue, reports and a number. -/
def Q.AOut (x : Q.Qa × List Q.Sa × Int) (w w' : World) (e : Ending) : Prop := ∃ (q : Q.Qm) (A : Option Addr) (c : Nat) (ss : List Q.Sm), e = .returned (.tuple #[.agg q.cells.toArray, .slice A ss.length c, .int .i64 x.2.2]) ∧ q.a = x.1 ∧ ss.map Q.Sm.a = x.2.1 ∧ Q.QIn w' w'.heap.size q ∧ Q.SsIn w' w'.heap.size A ss ∧ ss.length ≤ c ∧ Below w.heap.size w w'

set_option maxRecDepth 100000 in
set_option maxHeartbeats 4000000 in
theorem advance_ok (q : Q.Qm) (time : Int) (B : Nat) (w : World) (h : Q.QIn w B q) (hB : B ≤ w.heap.size) (hsml : q.a.Sml) (hchk : Q.chk q.a = 0) (ht0 : 0 ≤ time) (ht1 : time ≤ 1099511627776) (ht2 : q.clock ≤ time) :
    Calls Try.prog 24 #[.agg q.cells.toArray, .int .i64 time] w fun e w' => Q.AOut ((q.a.adv time).1, (q.a.adv time).2, 0) w w' e := by
  have CK := fun (W : World) (hw : Below w.heap.size w W) => check_any q B W (h.items.row.below hw hB) (Nat.le_trans hB hw.size) (by have := hsml.1; simp only [Q.Qm.a, List.length_map] at this; unfold maxLen; omega) (fun m hm => by have := hsml.2.2 m.u (List.mem_map.2 ⟨m, hm, rfl⟩); have h1 := this.1; have h2 := this.2.1; unfold maxLen; omega) (by have := hsml.2.1.1; simp only [Q.Qm.a] at this; unfold maxLen; omega) (by have := hsml.2.1.2.1; simp only [Q.Qm.a] at this; unfold maxLen; omega)
  rw [hchk] at CK
  have HQ := Lib.hid h
  have HS := Lib.hid hsml
  have HC := Lib.hid hchk
  have HLN : Hid (q.items.length ≤ 16) := Lib.hid (by have := hsml.1; simpa [Q.Qm.a] using this)
  rcases hq : q with ⟨ck, rt, sp, ⟨⟨p0, p1, p2, p3, p4⟩, a0, c0, a1, c1⟩, be, en, items, ai, ci⟩
  rw [hq] at CK ht2
  have HQ0 := Lib.hid hq
  simp only [Q.Qm.cells] at CK ht2 ⊢
  rw [← hq]
  replace CK := Lib.hid CK
  clear h hsml hchk hq
  have g1 : decide (time < 0) = false := decide_eq_false (by omega)
  have g2 : decide (1099511627776 < time) = false := decide_eq_false (by omega)
  have g3 : decide (time < ck) = false := decide_eq_false (by omega)
  have b0 := Lib.hid ((below_box w (.cells #[.int .i64 ck, .int .i64 rt, .bool sp, .slice a0 p0.length c0, .slice a1 p1.length c1, .int .i64 p2, .int .i64 p3, .int .i64 p4, .int .i64 be, .int .i64 en, .slice ai items.length ci] 28)).alloc (by simp) (.cells (Q.new 0 0) 28))
  have V0 := Lib.hid (heap_old2 (w.alloc (.cells #[.int .i64 ck, .int .i64 rt, .bool sp, .slice a0 p0.length c0, .slice a1 p1.length c1, .int .i64 p2, .int .i64 p3, .int .i64 p4, .int .i64 be, .int .i64 en, .slice ai items.length ci] 28)) (.cells (Q.new 0 0) 28) (heap_alloc_new w _))
  have V1 := heap_alloc_new (w.alloc (.cells #[.int .i64 ck, .int .i64 rt, .bool sp, .slice a0 p0.length c0, .slice a1 p1.length c1, .int .i64 p2, .int .i64 p3, .int .i64 p4, .int .i64 be, .int .i64 en, .slice ai items.length ci] 28)) (.cells (Q.new 0 0) 28)
  rw [World.size_alloc] at V1
  replace V1 := Lib.hid V1
  refine (callsIn_wide (n := 10)).1 ?_
  refine callsIn_of_wp_marks Try.func24 rfl trivial ?_ rfl
  simp only [Try.ntmps24, List.size_toArray, List.length_cons, List.length_nil, Nat.reduceAdd, Nat.reduceSub, Array.replicate_succ, Array.replicate_zero, List.push_toArray, List.append_toArray, List.nil_append, List.cons_append]
  gi_wp2_with (first
    | (refine ⟨trivial, ?_⟩; gi_at_call 17; refine (callsIn_wide.2 (CK.out _ b0.out)).mono ?_; clear CK; rintro e w1 ⟨rfl, bb⟩; (have B1 := Lib.hid (b0.out.trans (bb.mono b0.out.size))); (have VB1 := (bb.block w.heap.size (by simp; omega)).trans V0.out); (have VR1 := Lib.hid ((bb.block (w.heap.size + 1) (by simp)).trans V1.out)); (have hs1 : w.heap.size + 2 ≤ w1.heap.size := by have := bb.size; simp at this; omega); (have k0 := cell_of_block_ (i := 0) VB1); (have k1 := cell_of_block_ (i := 1) VB1); (have k2 := cell_of_block_ (i := 2) VB1); (have k3 := cell_of_block_ (i := 3) VB1); (have k4 := cell_of_block_ (i := 4) VB1); (have k5 := cell_of_block_ (i := 5) VB1); (have k6 := cell_of_block_ (i := 6) VB1); (have k7 := cell_of_block_ (i := 7) VB1); (have k8 := cell_of_block_ (i := 8) VB1); (have k9 := cell_of_block_ (i := 9) VB1); (have k10 := cell_of_block_ (i := 10) VB1); (simp at k0 k1 k2 k3 k4 k5 k6 k7 k8 k9 k10); (have z0 : ∀ o, (w1.alloc o).cell? ⟨w.heap.size, 0, none⟩ = _ := fun o => (World.cell?_alloc_lt w1 o ⟨w.heap.size, 0, none⟩ (by simp only; omega)).trans k0); (have y0 : ∀ o o', ((w1.alloc o).alloc o').cell? ⟨w.heap.size, 0, none⟩ = _ := fun o o' => (World.cell?_alloc_lt (w1.alloc o) o' ⟨w.heap.size, 0, none⟩ (by simp only [World.size_alloc]; omega)).trans (z0 o)); (have z1 : ∀ o, (w1.alloc o).cell? ⟨w.heap.size, 1, none⟩ = _ := fun o => (World.cell?_alloc_lt w1 o ⟨w.heap.size, 1, none⟩ (by simp only; omega)).trans k1); (have y1 : ∀ o o', ((w1.alloc o).alloc o').cell? ⟨w.heap.size, 1, none⟩ = _ := fun o o' => (World.cell?_alloc_lt (w1.alloc o) o' ⟨w.heap.size, 1, none⟩ (by simp only [World.size_alloc]; omega)).trans (z1 o)); (have z2 : ∀ o, (w1.alloc o).cell? ⟨w.heap.size, 2, none⟩ = _ := fun o => (World.cell?_alloc_lt w1 o ⟨w.heap.size, 2, none⟩ (by simp only; omega)).trans k2); (have y2 : ∀ o o', ((w1.alloc o).alloc o').cell? ⟨w.heap.size, 2, none⟩ = _ := fun o o' => (World.cell?_alloc_lt (w1.alloc o) o' ⟨w.heap.size, 2, none⟩ (by simp only [World.size_alloc]; omega)).trans (z2 o)); (have z3 : ∀ o, (w1.alloc o).cell? ⟨w.heap.size, 3, none⟩ = _ := fun o => (World.cell?_alloc_lt w1 o ⟨w.heap.size, 3, none⟩ (by simp only; omega)).trans k3); (have y3 : ∀ o o', ((w1.alloc o).alloc o').cell? ⟨w.heap.size, 3, none⟩ = _ := fun o o' => (World.cell?_alloc_lt (w1.alloc o) o' ⟨w.heap.size, 3, none⟩ (by simp only [World.size_alloc]; omega)).trans (z3 o)); (have z4 : ∀ o, (w1.alloc o).cell? ⟨w.heap.size, 4, none⟩ = _ := fun o => (World.cell?_alloc_lt w1 o ⟨w.heap.size, 4, none⟩ (by simp only; omega)).trans k4); (have y4 : ∀ o o', ((w1.alloc o).alloc o').cell? ⟨w.heap.size, 4, none⟩ = _ := fun o o' => (World.cell?_alloc_lt (w1.alloc o) o' ⟨w.heap.size, 4, none⟩ (by simp only [World.size_alloc]; omega)).trans (z4 o)); (have z5 : ∀ o, (w1.alloc o).cell? ⟨w.heap.size, 5, none⟩ = _ := fun o => (World.cell?_alloc_lt w1 o ⟨w.heap.size, 5, none⟩ (by simp only; omega)).trans k5); (have y5 : ∀ o o', ((w1.alloc o).alloc o').cell? ⟨w.heap.size, 5, none⟩ = _ := fun o o' => (World.cell?_alloc_lt (w1.alloc o) o' ⟨w.heap.size, 5, none⟩ (by simp only [World.size_alloc]; omega)).trans (z5 o)); (have z6 : ∀ o, (w1.alloc o).cell? ⟨w.heap.size, 6, none⟩ = _ := fun o => (World.cell?_alloc_lt w1 o ⟨w.heap.size, 6, none⟩ (by simp only; omega)).trans k6); (have y6 : ∀ o o', ((w1.alloc o).alloc o').cell? ⟨w.heap.size, 6, none⟩ = _ := fun o o' => (World.cell?_alloc_lt (w1.alloc o) o' ⟨w.heap.size, 6, none⟩ (by simp only [World.size_alloc]; omega)).trans (z6 o)); (have z7 : ∀ o, (w1.alloc o).cell? ⟨w.heap.size, 7, none⟩ = _ := fun o => (World.cell?_alloc_lt w1 o ⟨w.heap.size, 7, none⟩ (by simp only; omega)).trans k7); (have y7 : ∀ o o', ((w1.alloc o).alloc o').cell? ⟨w.heap.size, 7, none⟩ = _ := fun o o' => (World.cell?_alloc_lt (w1.alloc o) o' ⟨w.heap.size, 7, none⟩ (by simp only [World.size_alloc]; omega)).trans (z7 o)); (have z8 : ∀ o, (w1.alloc o).cell? ⟨w.heap.size, 8, none⟩ = _ := fun o => (World.cell?_alloc_lt w1 o ⟨w.heap.size, 8, none⟩ (by simp only; omega)).trans k8); (have y8 : ∀ o o', ((w1.alloc o).alloc o').cell? ⟨w.heap.size, 8, none⟩ = _ := fun o o' => (World.cell?_alloc_lt (w1.alloc o) o' ⟨w.heap.size, 8, none⟩ (by simp only [World.size_alloc]; omega)).trans (z8 o)); (have z9 : ∀ o, (w1.alloc o).cell? ⟨w.heap.size, 9, none⟩ = _ := fun o => (World.cell?_alloc_lt w1 o ⟨w.heap.size, 9, none⟩ (by simp only; omega)).trans k9); (have y9 : ∀ o o', ((w1.alloc o).alloc o').cell? ⟨w.heap.size, 9, none⟩ = _ := fun o o' => (World.cell?_alloc_lt (w1.alloc o) o' ⟨w.heap.size, 9, none⟩ (by simp only [World.size_alloc]; omega)).trans (z9 o)); (have z10 : ∀ o, (w1.alloc o).cell? ⟨w.heap.size, 10, none⟩ = _ := fun o => (World.cell?_alloc_lt w1 o ⟨w.heap.size, 10, none⟩ (by simp only; omega)).trans k10); (have y10 : ∀ o o', ((w1.alloc o).alloc o').cell? ⟨w.heap.size, 10, none⟩ = _ := fun o o' => (World.cell?_alloc_lt (w1.alloc o) o' ⟨w.heap.size, 10, none⟩ (by simp only [World.size_alloc]; omega)).trans (z10 o)); clear bb VB1 b0 V0 V1)
    | (refine ⟨trivial, ?_⟩; gi_at_call 45; refine (moments_in _ _ _ _).mono ?_; rintro e w2 ⟨rfl, rfl⟩))
  clear z0 y0 k0 z1 y1 k1 z2 y2 k2 z3 y3 k3 z4 y4 k4 z5 y5 k5 z6 y6 k6 z7 y7 k7 z8 y8 k8 z9 y9 k9 z10 y10 k10
  obtain ⟨W0, hW0⟩ : ∃ W0, (((w1.alloc (.cells #[.slice none 0 0] 45)).alloc (.cells #[.int .i64 ck, .int .i64 rt, .bool sp, .slice a0 p0.length c0, .slice a1 p1.length c1, .int .i64 p2, .int .i64 p3, .int .i64 p4, .int .i64 be, .int .i64 en, .slice ai items.length ci] 28)).alloc (.cells #[.int .i64 ck, .int .i64 rt, .bool sp, .slice a0 p0.length c0, .slice a1 p1.length c1, .int .i64 p2, .int .i64 p3, .int .i64 p4, .int .i64 be, .int .i64 en, .slice ai items.length ci] 28)).alloc (.cells #[.int .i64 time] 3) = W0 := ⟨_, rfl⟩
  have bO : W0.heap[w1.heap.size]? = some (.cells #[.slice none 0 0] 45 (0, 0)) := by
    rw [← hW0]; exact heap_old2 _ _ (heap_old2 _ _ (heap_old2 _ _ (heap_alloc_new w1 _)))
  have bL : W0.heap[w1.heap.size + 1]? = some (.cells #[.int .i64 ck, .int .i64 rt, .bool sp, .slice a0 p0.length c0, .slice a1 p1.length c1, .int .i64 p2, .int .i64 p3, .int .i64 p4, .int .i64 be, .int .i64 en, .slice ai items.length ci] 28 (0, 0)) := by
    have := heap_old2 _ (.cells #[.int .i64 time] 3) (heap_old2 _ (.cells #[.int .i64 ck, .int .i64 rt, .bool sp, .slice a0 p0.length c0, .slice a1 p1.length c1, .int .i64 p2, .int .i64 p3, .int .i64 p4, .int .i64 be, .int .i64 en, .slice ai items.length ci] 28) (heap_alloc_new (w1.alloc (.cells #[.slice none 0 0] 45)) (.cells #[.int .i64 ck, .int .i64 rt, .bool sp, .slice a0 p0.length c0, .slice a1 p1.length c1, .int .i64 p2, .int .i64 p3, .int .i64 p4, .int .i64 be, .int .i64 en, .slice ai items.length ci] 28)))
    rw [World.size_alloc, hW0] at this
    exact this
  have bQ : W0.heap[w1.heap.size + 1 + 1]? = some (.cells #[.int .i64 ck, .int .i64 rt, .bool sp, .slice a0 p0.length c0, .slice a1 p1.length c1, .int .i64 p2, .int .i64 p3, .int .i64 p4, .int .i64 be, .int .i64 en, .slice ai items.length ci] 28 (0, 0)) := by
    have := heap_old2 _ (.cells #[.int .i64 time] 3) (heap_alloc_new ((w1.alloc (.cells #[.slice none 0 0] 45)).alloc (.cells #[.int .i64 ck, .int .i64 rt, .bool sp, .slice a0 p0.length c0, .slice a1 p1.length c1, .int .i64 p2, .int .i64 p3, .int .i64 p4, .int .i64 be, .int .i64 en, .slice ai items.length ci] 28)) (.cells #[.int .i64 ck, .int .i64 rt, .bool sp, .slice a0 p0.length c0, .slice a1 p1.length c1, .int .i64 p2, .int .i64 p3, .int .i64 p4, .int .i64 be, .int .i64 en, .slice ai items.length ci] 28))
    rw [World.size_alloc, World.size_alloc, hW0] at this
    exact this
  have bT : W0.heap[w1.heap.size + 1 + 1 + 1]? = some (.cells #[.int .i64 time] 3 (0, 0)) := by
    have := heap_alloc_new (((w1.alloc (.cells #[.slice none 0 0] 45)).alloc (.cells #[.int .i64 ck, .int .i64 rt, .bool sp, .slice a0 p0.length c0, .slice a1 p1.length c1, .int .i64 p2, .int .i64 p3, .int .i64 p4, .int .i64 be, .int .i64 en, .slice ai items.length ci] 28)).alloc (.cells #[.int .i64 ck, .int .i64 rt, .bool sp, .slice a0 p0.length c0, .slice a1 p1.length c1, .int .i64 p2, .int .i64 p3, .int .i64 p4, .int .i64 be, .int .i64 en, .slice ai items.length ci] 28)) (.cells #[.int .i64 time] 3)
    rw [World.size_alloc, World.size_alloc, World.size_alloc, hW0] at this
    exact this
  have hb01 : Below w1.heap.size w1 W0 := by
    rw [← hW0]; exact ((((Below.refl _ w1).alloc (Nat.le_refl _) _).alloc (by simp) _).alloc (by simp; omega) _).alloc (by simp; omega) _
  have hsz : W0.heap.size = w1.heap.size + 4 := by rw [← hW0]; simp
  rw [hW0]
  clear hW0
  obtain ⟨M, hM⟩ : ∃ M, w1.heap.size = M := ⟨_, rfl⟩
  obtain ⟨N, hN⟩ : ∃ N, w.heap.size = N := ⟨_, rfl⟩
  rw [hM] at bO bL bQ bT hb01 hsz hs1
  rw [hN] at hs1 VR1 B1 hB
  rw [hM, hN]
  have HN := Lib.hid hN
  have vr0 : W0.heap[N + 1]? = some (.cells (Q.new 0 0) 28 (0, 0)) := (hb01.block (N + 1) (by omega)).trans VR1.out
  have be0 : Below N w W0 := B1.out.trans (hb01.mono (by omega))
  have hqc : q.cells.toArray = #[.int .i64 ck, .int .i64 rt, .bool sp, .slice a0 p0.length c0, .slice a1 p1.length c1, .int .i64 p2, .int .i64 p3, .int .i64 p4, .int .i64 be, .int .i64 en, .slice ai items.length ci] := by rw [HQ0.out]; rfl
  have hqck : q.clock = ck := by rw [HQ0.out]
  have MI0 : Q.MI (M + 1 + 1) (M + 1 + 1 + 1) N time q q W0 := ⟨by rw [hqc]; exact bQ, bT, (HQ.out.below be0 hB).more hB, fun m hm => hm, Nat.le_refl _, fun e => (Q.chk_en HC.out e).1, by omega⟩
  have AI0 : Q.AI N M w q [] W0 := ⟨be0, vr0, ⟨.slice none 0 0, [], bO, World.ownsRow_nil _ _ _ _, rfl, fun s hs => by cases hs⟩, by show W0.heap[M + 1]? = some (.cells q.cells.toArray 28 (0, 0)); rw [hqc]; exact bL, by omega⟩
  have HG := moments_gives 9 (by decide) (M + 1 + 1) (M + 1 + 1 + 1) N time q ht1 (by have := Q.chk_clock0 HC.out; exact this.1) HLN.out (fun m hm => HS.out.2.2 m.u (List.mem_map.2 ⟨m, hm, rfl⟩)) (by omega) (by omega) W0 MI0
  have QBN : Hid (Q.QIn w N q) := Lib.hid (HQ.out.more hB)
  clear hM hN bO bL bQ bT vr0 be0 MI0 VR1 B1 hqck hb01
  have SZ := Lib.hid hsz
  refine range_cells rfl (by decide) (gf := 55) (lb := #[.pointer (some ⟨M + 1 + 1, 0, none⟩), .pointer (some ⟨M + 1 + 1 + 1, 0, none⟩)]) rfl trivial (enters_of Try.func55 (by kernel_rfl) rfl)
    Q.yv (fun _ => rfl) (Q.ms time q) (M + 1 + 1) (by omega) (Q.MK (M + 1 + 1) (M + 1 + 1 + 1) N) (fun A B C h k => h.trans k) ?hkb HG (Q.AI N M w q) ?hI AI0
    (fun x a' W => ∃ By, M + 4 ≤ By ∧ W.heap[By]? = some (.cells x.1.cells.toArray 28 (0, 0)) ∧ a' = { tmps := #[.agg #[.int .i64 ck, .int .i64 rt, .bool sp, .slice a0 p0.length c0, .slice a1 p1.length c1, .int .i64 p2, .int .i64 p3, .int .i64 p4, .int .i64 be, .int .i64 en, .slice ai items.length ci], .int .i64 time, .pointer (some ⟨N, 0, none⟩), undef, .pointer (some ⟨N + 1, 0, none⟩), .slice none 0 0, .int .i64 0, .int .i64 0, .pointer (some ⟨M, 0, none⟩), .pointer (some ⟨M + 1, 0, none⟩), .pointer (some ⟨By, 0, none⟩), .bool x.2, .int .i64 time, .bool false, .bool false, .int .i64 time, .bool false, .bool false, undef, .int .i64 time, .pointer (some ⟨N, 0, none⟩), .int .i64 ck, .bool false, undef, .agg #[.int .i64 ck, .int .i64 rt, .bool sp, .slice a0 p0.length c0, .slice a1 p1.length c1, .int .i64 p2, .int .i64 p3, .int .i64 p4, .int .i64 be, .int .i64 en, .slice ai items.length ci], .int .i64 0, .int .i64 0, .bool false, undef, undef, .agg #[.int .i64 ck, .int .i64 rt, .bool sp, .slice a0 p0.length c0, .slice a1 p1.length c1, .int .i64 p2, .int .i64 p3, .int .i64 p4, .int .i64 be, .int .i64 en, .slice ai items.length ci], .agg #[.int .i64 ck, .int .i64 rt, .bool sp, .slice a0 p0.length c0, .slice a1 p1.length c1, .int .i64 p2, .int .i64 p3, .int .i64 p4, .int .i64 be, .int .i64 en, .slice ai items.length ci], .int .i64 time, .func (.func 55) #[] #[.pointer (some ⟨M + 1 + 1, 0, none⟩), .pointer (some ⟨M + 1 + 1 + 1, 0, none⟩)], .agg x.1.cells.toArray, .bool x.2, undef, undef, undef, undef, undef, undef, undef, undef, undef, undef, undef, undef, undef, undef, undef, undef, undef, undef], defers := [] })
    ?hAx ?assign ?body ?done
  case hkb =>
    rintro W l o o' hl ho hc
    exact ⟨World.putObj_heap_other (by omega), World.putObj_heap_other (by omega), Q.below_turn (by have := (Array.getElem?_eq_some_iff.1 ho).1; omega) (grownBy_putObj' W l o') (fun r e => by cases e; omega)⟩
  case hI =>
    rintro s X Y row hs hg hr
    exact hs.turn (by omega) hg (fun r e => by have := hr r e; rwa [hsz] at this)
  case hAx =>
    rintro x a' _ X Y row ⟨By, h1, h2, h3⟩ hg hr
    refine ⟨By, h1, (hg.block By (Array.getElem?_eq_some_iff.1 h2).1 (fun e => ?_)).trans h2, h3⟩
    obtain ⟨_, o, ho, hc⟩ := hr By e.symm
    rw [h2] at ho; cases ho; cases hc
  case assign =>
    clear HG AI0
    rintro lam pre ⟨⟨ck2, rt2, sp2, ⟨⟨v0, v1, v2, v3, v4⟩, d0, e0, d1, e1⟩, be2, en2, it2, ai2, ci2⟩, done⟩ W K hi hK
    have hsW := hi.sz
    dsimp only [Q.yv, Q.Qm.cells]
    gi_wp2
    exact hK _ _ ((KeepsOthers.alloc _ _).from _) ⟨Below.heap_alloc _ _ _ (by omega), Below.heap_alloc _ _ _ (by omega), (Below.refl _ W).alloc (by omega) _⟩ (hi.turn (by omega) (World.grownBy_alloc W _ none) (fun r e => by cases e)) ⟨W.heap.size, hsW, heap_alloc_new W _, rfl⟩
  case body =>
    clear HG AI0
    rintro lam pre ⟨⟨ck2, rt2, sp2, ⟨⟨v0, v1, v2, v3, v4⟩, d0, e0, d1, e1⟩, be2, en2, it2, ai2, ci2⟩, done⟩ post a' W hl hys ⟨hbe, vr, ⟨v, ss, bv, rowv, ess, us⟩, vl, sz⟩ ⟨By, hBy, vy, rfl⟩
    have HYS := Lib.hid hys
    simp only [Q.Qm.cells] at vy
    have k0 := cell_of_block_ (i := 0) vy
    have k1 := cell_of_block_ (i := 1) vy
    have k2 := cell_of_block_ (i := 2) vy
    have k3 := cell_of_block_ (i := 3) vy
    have k4 := cell_of_block_ (i := 4) vy
    have k5 := cell_of_block_ (i := 5) vy
    have k6 := cell_of_block_ (i := 6) vy
    have k7 := cell_of_block_ (i := 7) vy
    have k8 := cell_of_block_ (i := 8) vy
    have k9 := cell_of_block_ (i := 9) vy
    have k10 := cell_of_block_ (i := 10) vy
    simp at k0 k1 k2 k3 k4 k5 k6 k7 k8 k9 k10
    cases done with
    | false =>
      have HIQ := Lib.hid infoQ
      have HVL := Lib.hid vl
      have hC : (Q.lastF q pre).cells.toArray.size = 11 := rfl
      clear hys vl
      gi_wp2_with (refine wpListIn_store_blk rfl 28 (.tmp 9) (.tmp 48) rfl (M + 1) 0 #[.int .i64 ck2, .int .i64 rt2, .bool sp2, .slice d0 v0.length e0, .slice d1 v1.length e1, .int .i64 v2, .int .i64 v3, .int .i64 v4, .int .i64 be2, .int .i64 en2, .slice ai2 it2.length ci2] (Q.lastF q pre).cells.toArray 28 ?hx ?hy HVL.out (by rw [hC]; simp) HIQ.out (by simp [Value.oneCell']) ?_; (case hx => rfl); (case hy => rfl); intro W9 hv9 hg9)
      have hc9 : (putAt (Q.lastF q pre).cells.toArray.toList 0 #[.int .i64 ck2, .int .i64 rt2, .bool sp2, .slice d0 v0.length e0, .slice d1 v1.length e1, .int .i64 v2, .int .i64 v3, .int .i64 v4, .int .i64 be2, .int .i64 en2, .slice ai2 it2.length ci2].toList).toArray = #[.int .i64 ck2, .int .i64 rt2, .bool sp2, .slice d0 v0.length e0, .slice d1 v1.length e1, .int .i64 v2, .int .i64 v3, .int .i64 v4, .int .i64 be2, .int .i64 en2, .slice ai2 it2.length ci2] := by simp [putAt, Q.Qm.cells]
      rw [hc9] at hv9
      have hlt : ∀ r, some (M + 1) = some r → r = M + 1 := fun r e => by injection e with e; exact e.symm
      refine ⟨KeepsFrom.of_grownBy hg9 (fun j e => by have := hlt j e; omega), ⟨hg9.block _ (by omega) (by simp <;> omega), hg9.block _ (by omega) (by simp <;> omega), Q.below_turn (by omega) hg9 (fun r e => by have := hlt r e; omega)⟩, hbe.trans (Q.below_turn (by omega) hg9 (fun r e => by have := hlt r e; omega)), (hg9.block _ (by omega) (by simp; omega)).trans vr, ⟨v, ss, (hg9.block _ (by omega) (by simp)).trans bv, own_turn rowv hg9 (fun r e => .inl (by have := hlt r e; omega)), by rw [Q.sayF_snoc]; exact ess, fun s hs => (us s hs).turn hg9 (fun r e => .inl (by have := hlt r e; omega))⟩, by rw [Q.lastF_snoc]; exact hv9, Nat.le_trans sz hg9.size⟩
    | true =>
      have hys2 : (Q.sayF pre).length + 1 ≤ 17 := by
        have h1 := Q.sayF_le (ys := Q.ms time q) (pre := pre ++ [((⟨ck2, rt2, sp2, ⟨⟨v0, v1, v2, v3, v4⟩, d0, e0, d1, e1⟩, be2, en2, it2, ai2, ci2⟩ : Q.Qm), true)]) (post := post) (by rw [hys]; simp)
        rw [Q.sayF_snoc, if_pos rfl, List.length_append] at h1
        exact Nat.le_trans h1 (Q.say_len HS.out (Q.chk_clean HC.out))
      have hin : ((⟨ck2, rt2, sp2, ⟨⟨v0, v1, v2, v3, v4⟩, d0, e0, d1, e1⟩, be2, en2, it2, ai2, ci2⟩ : Q.Qm), true) ∈ Q.ms time q := by rw [hys]; simp
      have hxi := Q.ms_in QBN.out _ hin
      have hxs := (Q.ms_sml HS.out _ hin).2.1
      have hssl : ss.length + 1 ≤ 17 := by have := congrArg List.length ess; rw [List.length_map] at this; omega
      have SL : Hid (ss.length + 1 ≤ 17) := Lib.hid hssl
      have ESS := Lib.hid ess
      have NM : Hid (N + 2 ≤ M) := Lib.hid hs1
      obtain ⟨iS, hiS, hS0, hS1, hS2⟩ := info_parts infoS
      have J0 : Hid (Q.AJ N M w W q pre By #[.int .i64 ck2, .int .i64 rt2, .bool sp2, .slice d0 v0.length e0, .slice d1 v1.length e1, .int .i64 v2, .int .i64 v3, .int .i64 v4, .int .i64 be2, .int .i64 en2, .slice ai2 it2.length ci2] v ss W.drew) := Lib.hid ⟨hbe.drew, vr, bv, own_under rowv (below_drewN_ W 1), fun s hs => by have := (us s hs).under (below_drewN_ W 1); exact this, vl, sz, vy, (KeepsFrom.refl _ W).trans (KeepsFrom.of_grownBy (below_grown (below_drewN_ W 1)) (by simp)), ⟨rfl, rfl, (Below.refl N W).drew⟩⟩
      have CELL : Hid (∀ W' : World, W'.heap[By]? = some (.cells #[.int .i64 ck2, .int .i64 rt2, .bool sp2, .slice d0 v0.length e0, .slice d1 v1.length e1, .int .i64 v2, .int .i64 v3, .int .i64 v4, .int .i64 be2, .int .i64 en2, .slice ai2 it2.length ci2] 28 (0, 0)) → (W'.cell? ⟨By, 3, none⟩ = some (.slice d0 v0.length e0) ∧ W'.cell? ⟨By, 4, none⟩ = some (.slice d1 v1.length e1) ∧ W'.cell? ⟨By, 5, none⟩ = some (.int .i64 v2) ∧ W'.cell? ⟨By, 6, none⟩ = some (.int .i64 v3) ∧ W'.cell? ⟨By, 7, none⟩ = some (.int .i64 v4) ∧ W'.cell? ⟨By, 8, none⟩ = some (.int .i64 be2) ∧ W'.cell? ⟨By, 9, none⟩ = some (.int .i64 en2))) := Lib.hid (fun W' h9 => by
        have r3 := cell_of_block_ (i := 3) h9
        have r4 := cell_of_block_ (i := 4) h9
        have r5 := cell_of_block_ (i := 5) h9
        have r6 := cell_of_block_ (i := 6) h9
        have r7 := cell_of_block_ (i := 7) h9
        have r8 := cell_of_block_ (i := 8) h9
        have r9 := cell_of_block_ (i := 9) h9
        simp at r3 r4 r5 r6 r7 r8 r9
        exact ⟨r3, r4, r5, r6, r7, r8, r9⟩)
      have CP : Hid (∀ W' : World, Q.AJ N M w W q pre By #[.int .i64 ck2, .int .i64 rt2, .bool sp2, .slice d0 v0.length e0, .slice d1 v1.length e1, .int .i64 v2, .int .i64 v3, .int .i64 v4, .int .i64 be2, .int .i64 en2, .slice ai2 it2.length ci2] v ss W' → Calls Try.prog 41 #[.agg #[.slice d0 v0.length e0, .slice d1 v1.length e1, .int .i64 v2, .int .i64 v3, .int .i64 v4]] W' fun e w9 => ∃ m9 : Q.Um, e = .returned (.agg m9.cells.toArray) ∧ m9.u = ⟨v0, v1, v2, v3, v4⟩ ∧ Q.UOwn w9 (M + 4) m9 ∧ Below W'.heap.size W' w9) := Lib.hid (fun W' hJ => by
        refine (copied_own ⟨⟨v0, v1, v2, v3, v4⟩, d0, e0, d1, e1⟩ N W' (hxi.cur.below hJ.be (Nat.le_refl _)) (by have := hJ.sz; omega) hxs.cp).mono ?_
        rintro e w9 ⟨m9, e1', e2', o9, b9⟩
        exact ⟨m9, e1', e2', o9.lower hJ.sz, b9⟩)
      clear hys hys2 hin hxi hxs hssl ess hbe vr bv rowv us vl sz vy k0 k1 k2 k3 k4 k5 k6 k7 k8 k9 k10
      gi_wp2
      refine region_held_round (S := fun w' => w'.cell? ⟨By, 3, none⟩ = some (.slice d0 v0.length e0) ∧ w'.cell? ⟨By, 4, none⟩ = some (.slice d1 v1.length e1) ∧ w'.cell? ⟨By, 5, none⟩ = some (.int .i64 v2) ∧ w'.cell? ⟨By, 6, none⟩ = some (.int .i64 v3) ∧ w'.cell? ⟨By, 7, none⟩ = some (.int .i64 v4) ∧ w'.cell? ⟨By, 8, none⟩ = some (.int .i64 be2) ∧ w'.cell? ⟨By, 9, none⟩ = some (.int .i64 en2)) (by kernel_rfl) (by kernel_rfl) (fun _ _ h => h) (CELL.out _ J0.out.vy) (fun hHeld => ?_)
      obtain ⟨wc, hwc⟩ : ∃ wc, W.drew = wc := ⟨_, rfl⟩
      rw [hwc] at J0 hHeld ⊢
      clear hwc
      have J := J0
      clear J0
      refine tk 1 rfl (by kernel_rfl) hHeld (fun _ _ _ h => h) (v := ?_) ?_ ?_
      rotate_left 1
      · (intro w hSw; (try dsimp only at hSw); (try simp only [List.getElem_toArray, List.getElem_cons_succ, List.getElem_cons_zero]); go_simp) <;> (with_reducible rfl)
      try simp only [List.getElem_toArray, List.getElem_cons_succ, List.getElem_cons_zero, Act.put, List.setIfInBounds_toArray, List.set_cons_zero, List.set_cons_succ]
      refine tk 2 rfl (by kernel_rfl) hHeld (fun _ _ _ h => h) (v := ?_) ?_ ?_
      rotate_left 1
      · (intro w hSw; (try dsimp only at hSw); (try simp only [List.getElem_toArray, List.getElem_cons_succ, List.getElem_cons_zero]); go_simp) <;> (with_reducible rfl)
      try simp only [List.getElem_toArray, List.getElem_cons_succ, List.getElem_cons_zero, Act.put, List.setIfInBounds_toArray, List.set_cons_zero, List.set_cons_succ]
      refine tk 4 rfl (by kernel_rfl) hHeld (fun _ _ _ h => h) (v := ?_) ?_ ?_
      rotate_left 1
      · (intro w hSw; (try dsimp only at hSw); (try simp only [List.getElem_toArray, List.getElem_cons_succ, List.getElem_cons_zero]); go_simp) <;> (with_reducible rfl)
      try simp only [List.getElem_toArray, List.getElem_cons_succ, List.getElem_cons_zero, Act.put, List.setIfInBounds_toArray, List.set_cons_zero, List.set_cons_succ]
      refine tk 5 rfl (by kernel_rfl) hHeld (fun _ _ _ h => h) (v := ?_) ?_ ?_
      rotate_left 1
      · (intro w hSw; (try dsimp only at hSw); (try simp only [List.getElem_toArray, List.getElem_cons_succ, List.getElem_cons_zero]); go_simp) <;> (with_reducible rfl)
      try simp only [List.getElem_toArray, List.getElem_cons_succ, List.getElem_cons_zero, Act.put, List.setIfInBounds_toArray, List.set_cons_zero, List.set_cons_succ]
      refine tk 6 rfl (by kernel_rfl) hHeld (fun _ _ _ h => h) (v := ?_) ?_ ?_
      rotate_left 1
      · (intro w hSw; (try dsimp only at hSw); (try simp only [List.getElem_toArray, List.getElem_cons_succ, List.getElem_cons_zero]); go_simp) <;> (with_reducible rfl)
      try simp only [List.getElem_toArray, List.getElem_cons_succ, List.getElem_cons_zero, Act.put, List.setIfInBounds_toArray, List.set_cons_zero, List.set_cons_succ]
      refine tk 7 rfl (by kernel_rfl) hHeld (fun _ _ _ h => h) (v := ?_) ?_ ?_
      rotate_left 1
      · (intro w hSw; (try dsimp only at hSw); (try simp only [List.getElem_toArray, List.getElem_cons_succ, List.getElem_cons_zero]); go_simp) <;> (with_reducible rfl)
      try simp only [List.getElem_toArray, List.getElem_cons_succ, List.getElem_cons_zero, Act.put, List.setIfInBounds_toArray, List.set_cons_zero, List.set_cons_succ]
      refine wpAnyH_ready (rs := [0, 3]) (by kernel_rfl) (by simp) ?_
      refine AllReadyH.cons rfl (fun K hK => ?_) ?_
      · have cM := J.out.bv.cell
        simp only [List.getElem_toArray, List.getElem_cons_succ, List.getElem_cons_zero]
        go_simp
        refine hK.out _ _ (CELL.out _ J.out.vy) (fun hHeld => ?_)
        clear hK K cM
        try simp only [List.getElem_toArray, List.getElem_cons_succ, List.getElem_cons_zero, Act.put, List.setIfInBounds_toArray, List.set_cons_zero, List.set_cons_succ]
        refine wpAnyH_ready (rs := [3]) (by kernel_rfl) (by simp) ?_
        refine AllReadyH.cons rfl (fun K hK => ?_) ?_
        · simp only [List.getElem_toArray, List.getElem_cons_succ, List.getElem_cons_zero]
          go_simp
          go_at_call 41
          refine (CP.out wc J.out).mono ?_
          rintro e w9 ⟨m9, rfl, e9, o9, b9⟩
          have J9 := Lib.hid (J.out.below NM.out b9)
          try go_wp2_with fail
          refine hK.out _ _ (CELL.out _ J9.out.vy) (fun hHeld => ?_)
          clear hK K
          try simp only [List.getElem_toArray, List.getElem_cons_succ, List.getElem_cons_zero, Act.put, List.setIfInBounds_toArray, List.set_cons_zero, List.set_cons_succ]
          replace J := J9
          have U9 := Lib.hid o9
          have E9 := Lib.hid e9
          clear J9 o9 e9 b9
          obtain ⟨wc, hwc⟩ : ∃ wc, w9 = wc := ⟨_, rfl⟩
          rw [hwc] at J U9 hHeld ⊢
          clear hwc
          obtain ⟨⟨m0, m1, m2, m3, m4⟩, f0, f1, f2, f3⟩ := m9
          simp only [Q.Um.cells]
          refine tk 8 rfl (by kernel_rfl) hHeld (fun _ _ _ h => h) (v := ?_) ?_ ?_
          rotate_left 1
          · (intro w hSw; (try dsimp only at hSw); (try simp only [List.getElem_toArray, List.getElem_cons_succ, List.getElem_cons_zero]); go_simp) <;> (with_reducible rfl)
          try simp only [List.getElem_toArray, List.getElem_cons_succ, List.getElem_cons_zero, Act.put, List.setIfInBounds_toArray, List.set_cons_zero, List.set_cons_succ]
          have HSB := Lib.hid (CELL.out (wc.alloc (.cells #[.slice f0 m0.length f1, .slice f2 m1.length f3, .int .i64 m2, .int .i64 m3, .int .i64 m4, .int .i64 be2, .int .i64 en2, .bool true] 38)) (heap_old2 wc _ J.out.vy))
          have RD : Hid (Reads (wc.alloc (.cells #[.slice f0 m0.length f1, .slice f2 m1.length f3, .int .i64 m2, .int .i64 m3, .int .i64 m4, .int .i64 be2, .int .i64 en2, .bool true] 38)) (wc.alloc (.cells #[.slice f0 m0.length f1, .slice f2 m1.length f3, .int .i64 m2, .int .i64 m3, .int .i64 m4, .int .i64 be2, .int .i64 en2, .bool true] 38)).heap.size 8 (some ⟨wc.heap.size, 0, none⟩) 1 (Q.Sm.cells ⟨⟨⟨m0, m1, m2, m3, m4⟩, f0, f1, f2, f3⟩, be2, en2, true⟩)) := Lib.hid (Reads.of_own (World.ownsRow_lit (base := wc.heap.size) (e := 38) (size := 8) wc #[.slice f0 m0.length f1, .slice f2 m1.length f3, .int .i64 m2, .int .i64 m3, .int .i64 m4, .int .i64 be2, .int .i64 en2, .bool true] 1 (by simp) (by decide) rfl))
          refine wpAnyH_ready (rs := [9]) (by kernel_rfl) (by simp) ?_
          refine AllReadyH.cons rfl (fun K hK => ?_) ?_
          · simp only [List.getElem_toArray, List.getElem_cons_succ, List.getElem_cons_zero]
            go_simp
            refine hK.out _ _ HSB.out (fun hHeld => ?_)
            clear hK K
            try simp only [List.getElem_toArray, List.getElem_cons_succ, List.getElem_cons_zero, Act.put, List.setIfInBounds_toArray, List.set_cons_zero, List.set_cons_succ]
            refine wpAnyH_ready (rs := [10]) (by kernel_rfl) (by simp) ?_
            refine AllReadyH.cons rfl (fun K hK => ?_) ?_
            · have J2 := Lib.hid (J.out.below NM.out (below_box wc (.cells #[.slice f0 m0.length f1, .slice f2 m1.length f3, .int .i64 m2, .int .i64 m3, .int .i64 m4, .int .i64 be2, .int .i64 en2, .bool true] 38)))
              have U2 := Lib.hid (U9.out.under (below_box wc (.cells #[.slice f0 m0.length f1, .slice f2 m1.length f3, .int .i64 m2, .int .i64 m3, .int .i64 m4, .int .i64 be2, .int .i64 en2, .bool true] 38)))
              refine step_append_any _ rfl (.tmp 37) (.tmp 46) 45 rfl (M + 4) 38 iS _ 8 96 Try.underlying45 hiS hS0 hS1 hS2 rfl (by decide) v _ _ rfl J2.out.rowv _ _ 1 1 (Q.Sm.cells ⟨⟨⟨m0, m1, m2, m3, m4⟩, f0, f1, f2, f3⟩, be2, en2, true⟩) rfl RD.out (by simp [Q.Sm.cells, Value.oneCell']) (by have := SL.out; simp only [maxLen]; omega) (by have := SL.out; omega) J2.out.sz ?_
              intro v5 w5 hown5 hg5 _
              have FN := Lib.hid (J2.out.fin NM.out (s := ⟨⟨⟨m0, m1, m2, m3, m4⟩, f0, f1, f2, f3⟩, be2, en2, true⟩) U2.out (x := ((⟨ck2, rt2, sp2, ⟨⟨v0, v1, v2, v3, v4⟩, d0, e0, d1, e1⟩, be2, en2, it2, ai2, ci2⟩ : Q.Qm), true)) rfl (by show Q.Sa.mk _ _ _ _ = _; rw [show (⟨m0, m1, m2, m3, m4⟩ : Q.Ut) = _ from E9.out]) ESS.out hown5 hg5)
              have v5y := (hg5.block By (Array.getElem?_eq_some_iff.1 J2.out.vy).1 (fun e => by obtain ⟨cur, h1⟩ := own_type J2.out.rowv e.symm; have := J2.out.vy; rw [h1] at this; injection this with this; injection this with _ this _; exact absurd this (by decide))).trans J2.out.vy
              have b5M : Boxed w5 M 45 v := (hg5.block M (by have := J2.out.sz; omega) (fun e => by have := (J2.out.rowv.lt M e.symm).1; omega)).trans J2.out.bv
              have c5M := b5M.cell
              have f5M := b5M.frozen
              obtain ⟨gg, cap5, rfl⟩ := ownsRow_succ hown5
              refine hK.out _ _ (CELL.out _ v5y) (fun hHeld => ?_)
              clear hK K
              try simp only [List.getElem_toArray, List.getElem_cons_succ, List.getElem_cons_zero, Act.put, List.setIfInBounds_toArray, List.set_cons_zero, List.set_cons_succ]
              refine wpAnyH_ready (rs := [11]) (by kernel_rfl) (by simp) ?_
              refine AllReadyH.cons rfl (fun K hK => ?_) ?_
              · simp only [List.getElem_toArray, List.getElem_cons_succ, List.getElem_cons_zero]
                go_simp
                refine hK.out _ _ (CELL.out _ ((heap_setCell_other w5 ⟨M, 0, none⟩ By _ (fun e => by simp only at e; omega)).trans v5y)) (fun hHeld => ?_)
                clear hK K
                try simp only [List.getElem_toArray, List.getElem_cons_succ, List.getElem_cons_zero, Act.put, List.setIfInBounds_toArray, List.set_cons_zero, List.set_cons_succ]
                refine wpAnyH_done (by kernel_rfl) ?_ _
                exact (⟨by rw [SZ.out]; exact FN.out.1, FN.out.2⟩ : KeepsFrom W0.heap.size W _ ∧ Q.MK (M + 1 + 1) (M + 1 + 1 + 1) N W _ ∧ Q.AI N M w q _ _)
              exact AllReadyH.nil
            exact AllReadyH.nil
          exact AllReadyH.nil
        exact AllReadyH.nil
      refine AllReadyH.cons rfl (fun K hK => ?_) ?_
      · simp only [List.getElem_toArray, List.getElem_cons_succ, List.getElem_cons_zero]
        go_simp
        go_at_call 41
        refine (CP.out wc J.out).mono ?_
        rintro e w9 ⟨m9, rfl, e9, o9, b9⟩
        have J9 := Lib.hid (J.out.below NM.out b9)
        try go_wp2_with fail
        refine hK.out _ _ (CELL.out _ J9.out.vy) (fun hHeld => ?_)
        clear hK K
        try simp only [List.getElem_toArray, List.getElem_cons_succ, List.getElem_cons_zero, Act.put, List.setIfInBounds_toArray, List.set_cons_zero, List.set_cons_succ]
        replace J := J9
        have U9 := Lib.hid o9
        have E9 := Lib.hid e9
        clear J9 o9 e9 b9
        obtain ⟨wc, hwc⟩ : ∃ wc, w9 = wc := ⟨_, rfl⟩
        rw [hwc] at J U9 hHeld ⊢
        clear hwc
        obtain ⟨⟨m0, m1, m2, m3, m4⟩, f0, f1, f2, f3⟩ := m9
        simp only [Q.Um.cells]
        refine tk 8 rfl (by kernel_rfl) hHeld (fun _ _ _ h => h) (v := ?_) ?_ ?_
        rotate_left 1
        · (intro w hSw; (try dsimp only at hSw); (try simp only [List.getElem_toArray, List.getElem_cons_succ, List.getElem_cons_zero]); go_simp) <;> (with_reducible rfl)
        try simp only [List.getElem_toArray, List.getElem_cons_succ, List.getElem_cons_zero, Act.put, List.setIfInBounds_toArray, List.set_cons_zero, List.set_cons_succ]
        have HSB := Lib.hid (CELL.out (wc.alloc (.cells #[.slice f0 m0.length f1, .slice f2 m1.length f3, .int .i64 m2, .int .i64 m3, .int .i64 m4, .int .i64 be2, .int .i64 en2, .bool true] 38)) (heap_old2 wc _ J.out.vy))
        have RD : Hid (Reads (wc.alloc (.cells #[.slice f0 m0.length f1, .slice f2 m1.length f3, .int .i64 m2, .int .i64 m3, .int .i64 m4, .int .i64 be2, .int .i64 en2, .bool true] 38)) (wc.alloc (.cells #[.slice f0 m0.length f1, .slice f2 m1.length f3, .int .i64 m2, .int .i64 m3, .int .i64 m4, .int .i64 be2, .int .i64 en2, .bool true] 38)).heap.size 8 (some ⟨wc.heap.size, 0, none⟩) 1 (Q.Sm.cells ⟨⟨⟨m0, m1, m2, m3, m4⟩, f0, f1, f2, f3⟩, be2, en2, true⟩)) := Lib.hid (Reads.of_own (World.ownsRow_lit (base := wc.heap.size) (e := 38) (size := 8) wc #[.slice f0 m0.length f1, .slice f2 m1.length f3, .int .i64 m2, .int .i64 m3, .int .i64 m4, .int .i64 be2, .int .i64 en2, .bool true] 1 (by simp) (by decide) rfl))
        refine wpAnyH_ready (rs := [0, 9]) (by kernel_rfl) (by simp) ?_
        refine AllReadyH.cons rfl (fun K hK => ?_) ?_
        · have cM := J.out.bv.cell
          simp only [List.getElem_toArray, List.getElem_cons_succ, List.getElem_cons_zero]
          go_simp
          refine hK.out _ _ (CELL.out _ J.out.vy) (fun hHeld => ?_)
          clear hK K cM
          try simp only [List.getElem_toArray, List.getElem_cons_succ, List.getElem_cons_zero, Act.put, List.setIfInBounds_toArray, List.set_cons_zero, List.set_cons_succ]
          refine wpAnyH_ready (rs := [9]) (by kernel_rfl) (by simp) ?_
          refine AllReadyH.cons rfl (fun K hK => ?_) ?_
          · simp only [List.getElem_toArray, List.getElem_cons_succ, List.getElem_cons_zero]
            go_simp
            refine hK.out _ _ HSB.out (fun hHeld => ?_)
            clear hK K
            try simp only [List.getElem_toArray, List.getElem_cons_succ, List.getElem_cons_zero, Act.put, List.setIfInBounds_toArray, List.set_cons_zero, List.set_cons_succ]
            refine wpAnyH_ready (rs := [10]) (by kernel_rfl) (by simp) ?_
            refine AllReadyH.cons rfl (fun K hK => ?_) ?_
            · have J2 := Lib.hid (J.out.below NM.out (below_box wc (.cells #[.slice f0 m0.length f1, .slice f2 m1.length f3, .int .i64 m2, .int .i64 m3, .int .i64 m4, .int .i64 be2, .int .i64 en2, .bool true] 38)))
              have U2 := Lib.hid (U9.out.under (below_box wc (.cells #[.slice f0 m0.length f1, .slice f2 m1.length f3, .int .i64 m2, .int .i64 m3, .int .i64 m4, .int .i64 be2, .int .i64 en2, .bool true] 38)))
              refine step_append_any _ rfl (.tmp 37) (.tmp 46) 45 rfl (M + 4) 38 iS _ 8 96 Try.underlying45 hiS hS0 hS1 hS2 rfl (by decide) v _ _ rfl J2.out.rowv _ _ 1 1 (Q.Sm.cells ⟨⟨⟨m0, m1, m2, m3, m4⟩, f0, f1, f2, f3⟩, be2, en2, true⟩) rfl RD.out (by simp [Q.Sm.cells, Value.oneCell']) (by have := SL.out; simp only [maxLen]; omega) (by have := SL.out; omega) J2.out.sz ?_
              intro v5 w5 hown5 hg5 _
              have FN := Lib.hid (J2.out.fin NM.out (s := ⟨⟨⟨m0, m1, m2, m3, m4⟩, f0, f1, f2, f3⟩, be2, en2, true⟩) U2.out (x := ((⟨ck2, rt2, sp2, ⟨⟨v0, v1, v2, v3, v4⟩, d0, e0, d1, e1⟩, be2, en2, it2, ai2, ci2⟩ : Q.Qm), true)) rfl (by show Q.Sa.mk _ _ _ _ = _; rw [show (⟨m0, m1, m2, m3, m4⟩ : Q.Ut) = _ from E9.out]) ESS.out hown5 hg5)
              have v5y := (hg5.block By (Array.getElem?_eq_some_iff.1 J2.out.vy).1 (fun e => by obtain ⟨cur, h1⟩ := own_type J2.out.rowv e.symm; have := J2.out.vy; rw [h1] at this; injection this with this; injection this with _ this _; exact absurd this (by decide))).trans J2.out.vy
              have b5M : Boxed w5 M 45 v := (hg5.block M (by have := J2.out.sz; omega) (fun e => by have := (J2.out.rowv.lt M e.symm).1; omega)).trans J2.out.bv
              have c5M := b5M.cell
              have f5M := b5M.frozen
              obtain ⟨gg, cap5, rfl⟩ := ownsRow_succ hown5
              refine hK.out _ _ (CELL.out _ v5y) (fun hHeld => ?_)
              clear hK K
              try simp only [List.getElem_toArray, List.getElem_cons_succ, List.getElem_cons_zero, Act.put, List.setIfInBounds_toArray, List.set_cons_zero, List.set_cons_succ]
              refine wpAnyH_ready (rs := [11]) (by kernel_rfl) (by simp) ?_
              refine AllReadyH.cons rfl (fun K hK => ?_) ?_
              · simp only [List.getElem_toArray, List.getElem_cons_succ, List.getElem_cons_zero]
                go_simp
                refine hK.out _ _ (CELL.out _ ((heap_setCell_other w5 ⟨M, 0, none⟩ By _ (fun e => by simp only at e; omega)).trans v5y)) (fun hHeld => ?_)
                clear hK K
                try simp only [List.getElem_toArray, List.getElem_cons_succ, List.getElem_cons_zero, Act.put, List.setIfInBounds_toArray, List.set_cons_zero, List.set_cons_succ]
                refine wpAnyH_done (by kernel_rfl) ?_ _
                exact (⟨by rw [SZ.out]; exact FN.out.1, FN.out.2⟩ : KeepsFrom W0.heap.size W _ ∧ Q.MK (M + 1 + 1) (M + 1 + 1 + 1) N W _ ∧ Q.AI N M w q _ _)
              exact AllReadyH.nil
            exact AllReadyH.nil
          exact AllReadyH.nil
        refine AllReadyH.cons rfl (fun K hK => ?_) ?_
        · simp only [List.getElem_toArray, List.getElem_cons_succ, List.getElem_cons_zero]
          go_simp
          refine hK.out _ _ HSB.out (fun hHeld => ?_)
          clear hK K
          try simp only [List.getElem_toArray, List.getElem_cons_succ, List.getElem_cons_zero, Act.put, List.setIfInBounds_toArray, List.set_cons_zero, List.set_cons_succ]
          refine wpAnyH_ready (rs := [0]) (by kernel_rfl) (by simp) ?_
          refine AllReadyH.cons rfl (fun K hK => ?_) ?_
          · have cM := (World.cell?_alloc_lt wc (.cells #[.slice f0 m0.length f1, .slice f2 m1.length f3, .int .i64 m2, .int .i64 m3, .int .i64 m4, .int .i64 be2, .int .i64 en2, .bool true] 38) ⟨M, 0, none⟩ (by have := J.out.sz; simp only; omega)).trans J.out.bv.cell
            simp only [List.getElem_toArray, List.getElem_cons_succ, List.getElem_cons_zero]
            go_simp
            refine hK.out _ _ HSB.out (fun hHeld => ?_)
            clear hK K cM
            try simp only [List.getElem_toArray, List.getElem_cons_succ, List.getElem_cons_zero, Act.put, List.setIfInBounds_toArray, List.set_cons_zero, List.set_cons_succ]
            refine wpAnyH_ready (rs := [10]) (by kernel_rfl) (by simp) ?_
            refine AllReadyH.cons rfl (fun K hK => ?_) ?_
            · have J2 := Lib.hid (J.out.below NM.out (below_box wc (.cells #[.slice f0 m0.length f1, .slice f2 m1.length f3, .int .i64 m2, .int .i64 m3, .int .i64 m4, .int .i64 be2, .int .i64 en2, .bool true] 38)))
              have U2 := Lib.hid (U9.out.under (below_box wc (.cells #[.slice f0 m0.length f1, .slice f2 m1.length f3, .int .i64 m2, .int .i64 m3, .int .i64 m4, .int .i64 be2, .int .i64 en2, .bool true] 38)))
              refine step_append_any _ rfl (.tmp 37) (.tmp 46) 45 rfl (M + 4) 38 iS _ 8 96 Try.underlying45 hiS hS0 hS1 hS2 rfl (by decide) v _ _ rfl J2.out.rowv _ _ 1 1 (Q.Sm.cells ⟨⟨⟨m0, m1, m2, m3, m4⟩, f0, f1, f2, f3⟩, be2, en2, true⟩) rfl RD.out (by simp [Q.Sm.cells, Value.oneCell']) (by have := SL.out; simp only [maxLen]; omega) (by have := SL.out; omega) J2.out.sz ?_
              intro v5 w5 hown5 hg5 _
              have FN := Lib.hid (J2.out.fin NM.out (s := ⟨⟨⟨m0, m1, m2, m3, m4⟩, f0, f1, f2, f3⟩, be2, en2, true⟩) U2.out (x := ((⟨ck2, rt2, sp2, ⟨⟨v0, v1, v2, v3, v4⟩, d0, e0, d1, e1⟩, be2, en2, it2, ai2, ci2⟩ : Q.Qm), true)) rfl (by show Q.Sa.mk _ _ _ _ = _; rw [show (⟨m0, m1, m2, m3, m4⟩ : Q.Ut) = _ from E9.out]) ESS.out hown5 hg5)
              have v5y := (hg5.block By (Array.getElem?_eq_some_iff.1 J2.out.vy).1 (fun e => by obtain ⟨cur, h1⟩ := own_type J2.out.rowv e.symm; have := J2.out.vy; rw [h1] at this; injection this with this; injection this with _ this _; exact absurd this (by decide))).trans J2.out.vy
              have b5M : Boxed w5 M 45 v := (hg5.block M (by have := J2.out.sz; omega) (fun e => by have := (J2.out.rowv.lt M e.symm).1; omega)).trans J2.out.bv
              have c5M := b5M.cell
              have f5M := b5M.frozen
              obtain ⟨gg, cap5, rfl⟩ := ownsRow_succ hown5
              refine hK.out _ _ (CELL.out _ v5y) (fun hHeld => ?_)
              clear hK K
              try simp only [List.getElem_toArray, List.getElem_cons_succ, List.getElem_cons_zero, Act.put, List.setIfInBounds_toArray, List.set_cons_zero, List.set_cons_succ]
              refine wpAnyH_ready (rs := [11]) (by kernel_rfl) (by simp) ?_
              refine AllReadyH.cons rfl (fun K hK => ?_) ?_
              · simp only [List.getElem_toArray, List.getElem_cons_succ, List.getElem_cons_zero]
                go_simp
                refine hK.out _ _ (CELL.out _ ((heap_setCell_other w5 ⟨M, 0, none⟩ By _ (fun e => by simp only at e; omega)).trans v5y)) (fun hHeld => ?_)
                clear hK K
                try simp only [List.getElem_toArray, List.getElem_cons_succ, List.getElem_cons_zero, Act.put, List.setIfInBounds_toArray, List.set_cons_zero, List.set_cons_succ]
                refine wpAnyH_done (by kernel_rfl) ?_ _
                exact (⟨by rw [SZ.out]; exact FN.out.1, FN.out.2⟩ : KeepsFrom W0.heap.size W _ ∧ Q.MK (M + 1 + 1) (M + 1 + 1 + 1) N W _ ∧ Q.AI N M w q _ _)
              exact AllReadyH.nil
            exact AllReadyH.nil
          exact AllReadyH.nil
        exact AllReadyH.nil
      exact AllReadyH.nil
  case done =>
    clear HG AI0
    rintro D W hD ⟨hbe, vr, ⟨v, ss, bv, rowv, ess, us⟩, vl, sz⟩ hK
    obtain ⟨A9, c9, rfl, _, hc9⟩ := own_reads_cap rowv
    have HQL := Q.lastF_all (fun x => Q.QIn w N x) (Q.ms time q) QBN.out (Q.ms_in QBN.out)
    have HSL := Q.lastF_all (fun x => x.a.Sml) (Q.ms time q) HS.out (Q.ms_sml HS.out)
    have HADV := Lib.hid (Q.ms_adv time (Q.chk_clean HC.out))
    rcases hqL : Q.lastF q (Q.ms time q) with ⟨ck2, rt2, sp2, ⟨⟨v0, v1, v2, v3, v4⟩, d0, e0, d1, e1⟩, be2, en2, it2, ai2, ci2⟩
    rw [hqL] at vl HQL HSL HADV
    simp only [Q.Qm.cells] at vl
    have k0 := cell_of_block_ (i := 0) vl
    have k1 := cell_of_block_ (i := 1) vl
    have k2 := cell_of_block_ (i := 2) vl
    have k3 := cell_of_block_ (i := 3) vl
    have k4 := cell_of_block_ (i := 4) vl
    have k5 := cell_of_block_ (i := 5) vl
    have k6 := cell_of_block_ (i := 6) vl
    have k7 := cell_of_block_ (i := 7) vl
    have k8 := cell_of_block_ (i := 8) vl
    have k9 := cell_of_block_ (i := 9) vl
    have k10 := cell_of_block_ (i := 10) vl
    simp at k0 k1 k2 k3 k4 k5 k6 k7 k8 k9 k10
    have f0 := unfrozen_of_block vl 0
    have V1 := block_setCell (i := 0) vl (.int .i64 time)
    simp at V1
    have hgA : W.grownBy (W.setCell ⟨M + 1, 0, none⟩ (.int .i64 time)) (some (M + 1)) := only_setCell (World.grownBy.refl W (some (M + 1))) (.inl rfl) _
    have hDM : M + 4 ≤ D := by omega
    have hDs : D < W.heap.size := (Array.getElem?_eq_some_iff.1 hK).1
    have hltA : ∀ r, some (M + 1) = some r → r < M + 4 ∨ ∃ o : Obj, W.heap[r]? = some o ∧ o.isCells = false := fun r e => .inl (by injection e with e; omega)
    have beA := hbe.trans (Q.below_turn (by omega) hgA (fun r e => by injection e with e; omega))
    have vrA := (hgA.block (N + 1) (by omega) (by simp; omega)).trans vr
    have bvA := (hgA.block M (by omega) (by simp)).trans bv
    have rowA := own_turn rowv hgA hltA
    have usA : ∀ s ∈ ss, Q.UOwn (W.setCell ⟨M + 1, 0, none⟩ (.int .i64 time)) (M + 4) s.m := fun s hs => (us s hs).turn hgA hltA
    have kA := (hgA.block D hDs (by simp; omega)).trans hK
    have szA := Nat.le_trans sz hgA.size
    gi_wp2
    clear k0 k1 k2 k3 k4 k5 k6 k7 k8 k9 k10 f0 vl vr bv rowv us hK hgA hltA hbe sz hDs
    obtain ⟨WA, hWA⟩ : ∃ WA, W.setCell ⟨M + 1, 0, none⟩ (.int .i64 time) = WA := ⟨_, rfl⟩
    rw [hWA] at V1 beA vrA bvA rowA usA kA szA ⊢
    clear hWA
    have CELL : Hid (∀ W' : World, W'.heap[M + 1]? = some (.cells #[.int .i64 time, .int .i64 rt2, .bool sp2, .slice d0 v0.length e0, .slice d1 v1.length e1, .int .i64 v2, .int .i64 v3, .int .i64 v4, .int .i64 be2, .int .i64 en2, .slice ai2 it2.length ci2] 28 (0, 0)) → W'.heap[M]? = some (.cells #[.slice A9 ss.length c9] 45 (0, 0)) → (W'.cell? ⟨M + 1, 0, none⟩ = some (.int .i64 time) ∧ W'.cell? ⟨M + 1, 1, none⟩ = some (.int .i64 rt2) ∧ W'.cell? ⟨M + 1, 2, none⟩ = some (.bool sp2) ∧ W'.cell? ⟨M + 1, 3, none⟩ = some (.slice d0 v0.length e0) ∧ W'.cell? ⟨M + 1, 4, none⟩ = some (.slice d1 v1.length e1) ∧ W'.cell? ⟨M + 1, 5, none⟩ = some (.int .i64 v2) ∧ W'.cell? ⟨M + 1, 6, none⟩ = some (.int .i64 v3) ∧ W'.cell? ⟨M + 1, 7, none⟩ = some (.int .i64 v4) ∧ W'.cell? ⟨M + 1, 8, none⟩ = some (.int .i64 be2) ∧ W'.cell? ⟨M + 1, 9, none⟩ = some (.int .i64 en2) ∧ W'.cell? ⟨M + 1, 10, none⟩ = some (.slice ai2 it2.length ci2) ∧ W'.cell? ⟨M, 0, none⟩ = some (.slice A9 ss.length c9))) := Lib.hid (fun W' h9 h8 => by
      have r0 := cell_of_block_ (i := 0) h9
      have r1 := cell_of_block_ (i := 1) h9
      have r2 := cell_of_block_ (i := 2) h9
      have r3 := cell_of_block_ (i := 3) h9
      have r4 := cell_of_block_ (i := 4) h9
      have r5 := cell_of_block_ (i := 5) h9
      have r6 := cell_of_block_ (i := 6) h9
      have r7 := cell_of_block_ (i := 7) h9
      have r8 := cell_of_block_ (i := 8) h9
      have r9 := cell_of_block_ (i := 9) h9
      have r10 := cell_of_block_ (i := 10) h9
      simp at r0 r1 r2 r3 r4 r5 r6 r7 r8 r9 r10
      have r11 := cell_of_block_ (i := 0) h8
      simp at r11
      exact ⟨r0, r1, r2, r3, r4, r5, r6, r7, r8, r9, r10, r11⟩)
    have OW := Lib.hid (fun (W' : World) (hb : Below WA.heap.size WA W') => own_any ⟨time, rt2, sp2, ⟨⟨v0, v1, v2, v3, v4⟩, d0, e0, d1, e1⟩, be2, en2, it2, ai2, ci2⟩ N W' ((show Q.QIn w N ⟨time, rt2, sp2, ⟨⟨v0, v1, v2, v3, v4⟩, d0, e0, d1, e1⟩, be2, en2, it2, ai2, ci2⟩ from ⟨HQL.cur, HQL.items, HQL.hi⟩).below (beA.trans (hb.mono (by omega))) (Nat.le_refl _)) (by have := hb.size; omega) (Q.Qa.Sml.cp (show Q.Qa.Sml (Q.Qm.a ⟨time, rt2, sp2, ⟨⟨v0, v1, v2, v3, v4⟩, d0, e0, d1, e1⟩, be2, en2, it2, ai2, ci2⟩) from HSL)))
    simp only [Q.Qm.cells] at OW
    have HIQ := Lib.hid infoQ
    have HBE := Lib.hid beA
    have HVR := Lib.hid vrA
    have HBV := Lib.hid bvA
    have HROW := Lib.hid rowA
    have HUS := Lib.hid usA
    have HK := Lib.hid kA
    have HV1 := Lib.hid V1
    have HESS := Lib.hid ess
    clear beA vrA bvA rowA usA kA V1 ess HQL HSL hqL
    refine wpIn_wide.2 (wp_normal ?_)
    refine wp_region_held_drew (S := fun w' => w'.cell? ⟨M + 1, 0, none⟩ = some (.int .i64 time) ∧ w'.cell? ⟨M + 1, 1, none⟩ = some (.int .i64 rt2) ∧ w'.cell? ⟨M + 1, 2, none⟩ = some (.bool sp2) ∧ w'.cell? ⟨M + 1, 3, none⟩ = some (.slice d0 v0.length e0) ∧ w'.cell? ⟨M + 1, 4, none⟩ = some (.slice d1 v1.length e1) ∧ w'.cell? ⟨M + 1, 5, none⟩ = some (.int .i64 v2) ∧ w'.cell? ⟨M + 1, 6, none⟩ = some (.int .i64 v3) ∧ w'.cell? ⟨M + 1, 7, none⟩ = some (.int .i64 v4) ∧ w'.cell? ⟨M + 1, 8, none⟩ = some (.int .i64 be2) ∧ w'.cell? ⟨M + 1, 9, none⟩ = some (.int .i64 en2) ∧ w'.cell? ⟨M + 1, 10, none⟩ = some (.slice ai2 it2.length ci2) ∧ w'.cell? ⟨M, 0, none⟩ = some (.slice A9 ss.length c9)) (by kernel_rfl) (CELL.out _ HV1.out HBV.out) (fun hHeld => ?_)
    obtain ⟨wd, hwd⟩ : ∃ wd, WA.drew = wd := ⟨_, rfl⟩
    have bd : Below WA.heap.size WA wd := by rw [← hwd]; exact (Below.refl _ WA).drew
    rw [hwd] at hHeld ⊢
    clear hwd
    refine tk 0 rfl (by kernel_rfl) hHeld (fun _ _ _ h => h) (v := ?_) ?_ ?_
    rotate_left 1
    · (intro w hSw; (try dsimp only at hSw); (try simp only [List.getElem_toArray, List.getElem_cons_succ, List.getElem_cons_zero]); go_simp) <;> (with_reducible rfl)
    try simp only [List.getElem_toArray, List.getElem_cons_succ, List.getElem_cons_zero, Act.put, List.setIfInBounds_toArray, List.set_cons_zero, List.set_cons_succ]
    refine tk 2 rfl (by kernel_rfl) hHeld (fun _ _ _ h => h) (v := ?_) ?_ ?_
    rotate_left 1
    · (intro w hSw; (try dsimp only at hSw); (try simp only [List.getElem_toArray, List.getElem_cons_succ, List.getElem_cons_zero]); go_simp) <;> (with_reducible rfl)
    try simp only [List.getElem_toArray, List.getElem_cons_succ, List.getElem_cons_zero, Act.put, List.setIfInBounds_toArray, List.set_cons_zero, List.set_cons_succ]
    refine wpAnyH_ready (rs := [1]) (by kernel_rfl) (by simp) (AllReadyH.cons rfl (fun K hK => ?_) AllReadyH.nil)
    simp only [List.getElem_toArray, List.getElem_cons_succ, List.getElem_cons_zero]
    go_simp
    go_at_call 35
    refine (OW.out _ bd).mono ?_
    rintro e w5 ⟨⟨ck5, rt5, sp5, ⟨⟨x0, x1, x2, x3, x4⟩, h0, i0, h1, i1⟩, be5, en5, it5, ai5, ci5⟩, rfl, e5, o5, b5⟩
    try go_wp2_with fail
    have bA5 : Below WA.heap.size WA w5 := bd.trans (b5.mono bd.size)
    have V5 := (bA5.block (M + 1) (by omega)).trans HV1.out
    have BV5 := (bA5.block M (by omega)).trans HBV.out
    refine hK.out _ _ (CELL.out _ V5 BV5) (fun hHeld => ?_)
    clear hK K
    try simp only [List.getElem_toArray, List.getElem_cons_succ, List.getElem_cons_zero, Act.put, List.setIfInBounds_toArray, List.set_cons_zero, List.set_cons_succ]
    have VR5 := (bA5.block (N + 1) (by omega)).trans HVR.out
    have s5 : M + 4 ≤ w5.heap.size := Nat.le_trans szA bA5.size
    have O5 := o5.lower (base' := M + 4) (Nat.le_trans szA bd.size)
    simp only [Q.Qm.cells]
    refine wpAnyH_ready (rs := [3]) (by kernel_rfl) (by simp) (AllReadyH.cons rfl (fun K hK => ?_) AllReadyH.nil)
    refine step_store_blk rfl 28 (.tmp 4) (.tmp 52) rfl (N + 1) 0 #[.int .i64 ck5, .int .i64 rt5, .bool sp5, .slice h0 x0.length i0, .slice h1 x1.length i1, .int .i64 x2, .int .i64 x3, .int .i64 x4, .int .i64 be5, .int .i64 en5, .slice ai5 it5.length ci5] (Q.new 0 0) 28 rfl rfl VR5 (by simp) HIQ.out (by simp [Value.oneCell']) ?_
    intro w6 hv6 hg6
    have hc6 : (putAt (Q.new 0 0).toList 0 #[.int .i64 ck5, .int .i64 rt5, .bool sp5, .slice h0 x0.length i0, .slice h1 x1.length i1, .int .i64 x2, .int .i64 x3, .int .i64 x4, .int .i64 be5, .int .i64 en5, .slice ai5 it5.length ci5].toList).toArray = #[.int .i64 ck5, .int .i64 rt5, .bool sp5, .slice h0 x0.length i0, .slice h1 x1.length i1, .int .i64 x2, .int .i64 x3, .int .i64 x4, .int .i64 be5, .int .i64 en5, .slice ai5 it5.length ci5] := by simp [putAt]
    rw [hc6] at hv6
    have V6 := (hg6.block (M + 1) (by omega) (by simp; omega)).trans V5
    have BV6 := (hg6.block M (by omega) (by simp; omega)).trans BV5
    refine hK.out _ _ (CELL.out _ V6 BV6) (fun hHeld => ?_)
    clear hK K
    try simp only [List.getElem_toArray, List.getElem_cons_succ, List.getElem_cons_zero, Act.put, List.setIfInBounds_toArray, List.set_cons_zero, List.set_cons_succ]
    refine tk 4 rfl (by kernel_rfl) hHeld (fun _ _ _ h => h) (v := ?_) ?_ ?_
    rotate_left 1
    · (intro w hSw; (try dsimp only at hSw); (try simp only [List.getElem_toArray, List.getElem_cons_succ, List.getElem_cons_zero]); go_simp) <;> (with_reducible rfl)
    try simp only [List.getElem_toArray, List.getElem_cons_succ, List.getElem_cons_zero, Act.put, List.setIfInBounds_toArray, List.set_cons_zero, List.set_cons_succ]
    refine tk 5 rfl (by kernel_rfl) hHeld (fun _ _ _ h => h) (v := ?_) ?_ ?_
    rotate_left 1
    · (intro w hSw; (try dsimp only at hSw); (try simp only [List.getElem_toArray, List.getElem_cons_succ, List.getElem_cons_zero]); go_simp) <;> (with_reducible rfl)
    try simp only [List.getElem_toArray, List.getElem_cons_succ, List.getElem_cons_zero, Act.put, List.setIfInBounds_toArray, List.set_cons_zero, List.set_cons_succ]
    refine wpAnyH_done (by kernel_rfl) ?_ _
    have hlt6 : ∀ r, some (N + 1) = some r → r < M + 4 ∨ ∃ o : Obj, w5.heap[r]? = some o ∧ o.isCells = false := fun r e => .inl (by injection e with e; omega)
    have be6 : Below N w w6 := (HBE.out.trans (bA5.mono (by omega))).trans (Q.below_turn (by omega) hg6 (fun r e => by injection e with e; omega))
    have hD5 : D < w5.heap.size := by have := (Array.getElem?_eq_some_iff.1 HK.out).1; have := bA5.size; omega
    have K6 : w6.heap[D]? = some (.deferred (some [])) := (hg6.block D hD5 (by simp; omega)).trans ((bA5.block D (Array.getElem?_eq_some_iff.1 HK.out).1).trans HK.out)
    have O6 := O5.turn hg6 hlt6
    have R6 := own_turn (own_under HROW.out bA5) hg6 hlt6
    have U6 : ∀ s ∈ ss, Q.UOwn w6 (M + 4) s.m := fun s hs => ((HUS.out s hs).under bA5).turn hg6 hlt6
    have s6 : M + 4 ≤ w6.heap.size := Nat.le_trans s5 hg6.size
    clear hHeld o5 b5 O5 V5 BV5 VR5 hc6 V6 BV6 OW CELL HIQ
    have V6 := Lib.hid hv6
    replace be6 := Lib.hid be6
    replace K6 := Lib.hid K6
    replace O6 := Lib.hid O6
    replace R6 := Lib.hid R6
    replace U6 := Lib.hid U6
    clear hv6 hg6 hlt6
    gi_wp2
    have hgD := grownBy_putObj' w6 D (.deferred none)
    have hltD : ∀ r, some D = some r → r < M + 4 ∨ ∃ o : Obj, w6.heap[r]? = some o ∧ o.isCells = false := fun r e => .inr (by injection e with e; subst e; exact ⟨_, K6.out, rfl⟩)
    refine ⟨by simp, .inl ⟨_, _, rfl, run_takeDeferred K6.out, ?_⟩⟩
    have V7 := (hgD.block (N + 1) (by omega) (by simp; omega)).trans V6.out
    have r0 := cell_of_block_ (i := 0) V7
    have r1 := cell_of_block_ (i := 1) V7
    have r2 := cell_of_block_ (i := 2) V7
    have r3 := cell_of_block_ (i := 3) V7
    have r4 := cell_of_block_ (i := 4) V7
    have r5 := cell_of_block_ (i := 5) V7
    have r6 := cell_of_block_ (i := 6) V7
    have r7 := cell_of_block_ (i := 7) V7
    have r8 := cell_of_block_ (i := 8) V7
    have r9 := cell_of_block_ (i := 9) V7
    have r10 := cell_of_block_ (i := 10) V7
    simp at r0 r1 r2 r3 r4 r5 r6 r7 r8 r9 r10
    have O7 := (O6.out.turn hgD hltD).qin
    have R7 := own_turn R6.out hgD hltD
    obtain ⟨A10, c10, e10, r10', hc10⟩ := own_reads_cap R7
    injection e10 with e10 _ e11
    subst e10 e11
    refine ⟨.tuple #[.agg #[.int .i64 ck5, .int .i64 rt5, .bool sp5, .slice h0 x0.length i0, .slice h1 x1.length i1, .int .i64 x2, .int .i64 x3, .int .i64 x4, .int .i64 be5, .int .i64 en5, .slice ai5 it5.length ci5], .slice A9 ss.length c9, .int .i64 0], by simp [results, Try.results24, go_sem, r0, r1, r2, r3, r4, r5, r6, r7, r8, r9, r10], ⟨⟨ck5, rt5, sp5, ⟨⟨x0, x1, x2, x3, x4⟩, h0, i0, h1, i1⟩, be5, en5, it5, ai5, ci5⟩, A9, c9, ss, rfl, ?_, ?_, O7, ⟨r10', fun s hs => ((U6.out s hs).turn hgD hltD).uin⟩, hc10, ?_⟩⟩
    · rw [e5]; exact HADV.out.1
    · rw [HESS.out]; exact HADV.out.2
    · rw [HN.out]; exact be6.out.trans (Q.below_turn (by omega) hgD (fun r e => by injection e with e; omega))
end Go.Proofs.Ytfjkelngdljikaa
