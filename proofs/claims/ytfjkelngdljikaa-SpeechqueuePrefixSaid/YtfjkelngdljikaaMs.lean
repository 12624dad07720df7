/-
  The walks of layer 44: moments, what it yields; its closure. By an AI agent.
-/
import Derived.RangeFuncLeaves
import Derived.Shelf.Abstract
import Derived.Shelf.RegionOpen
import Derived.WalkKit
import Derived.OwnWalkIn
import Derived.TacticsInMore
import Derived.LoopIn
import Derived.Sort.LoopGhostIn
import Derived.Lib.MinMax
import Derived.StillTailTactics
import Derived.Test.YtfjkelngdljikaaRl
import Derived.Test.YtfjkelngdljikaaQr
namespace Go.Proofs.Ytfjkelngdljikaa
set_option linter.unusedVariables false
set_option linter.unusedSimpArgs false
open Go.RowKit Go.Joins Go.Deep Go.Shelf

attribute [local go_sem] Oper.semAt_some

/-- A store into a block that is known whole, inside a fence. -/
theorem wpListIn_store_blk {F : Fence} {n : Nat} {P : Program} {ops : Array Oper} {rest : List Oper} {op : Oper} {a : Act} {w : World} {Q : Exit → Act → World → Prop} (hgd : op.guard = none) (ty : TypeId) (x y : Operand) (ho : op.op = .store ty x y)
    (b o : Nat) (cells C : Array Value) (t : TypeId) (hx : a.eval x = .pointer (some ⟨b, o, none⟩)) (hy : a.eval y = .agg cells)
    (hb : w.heap[b]? = some (.cells C t (0, 0))) (hn : o + cells.size ≤ C.size) (hi : (P.info? ty).map (·.size) = some cells.size) (h1 : cells.all (·.oneCell') = true)
    (h : ∀ W9 : World, W9.heap[b]? = some (.cells (putAt C.toList o cells.toList).toArray t (0, 0)) → w.grownBy W9 (some b) → wpListIn F n P ops Q rest (a.put op.dst undef) W9) : wpListIn F n P ops Q (op :: rest) a w := by
  refine wpListIn_plain hgd fun K hK' => ?_
  have k := block_setCells cells.toList o w C hb
  unfold Oper.wpIn
  refine ⟨?_, ?_⟩
  · simp [Oper.about, ho]
  · rw [Oper.semAt_plain F _ _ (by rw [ho]; intro c hc'; cases hc')]
    simp only [execOp, ho, hx, hy, Instr.storeAt, Instr.sureAddr, Sem.run_bind, Sem.run_pure, Result.andThen_ok, run_storeVar_mid w b o ty cells (there_block hb o _ hn) hi h1]
    exact hK' _ _ (h _ k.1 k.2)

theorem below_grown {W W' : World} (h : Below W.heap.size W W') : W.grownBy W' none := ⟨h.os, h.tape, h.output, h.size, fun k hk _ => h.block k hk⟩
namespace Q
/-- What is yielded from a moment at which nothing is spoken. -/
def msI (time : Int) : Nat → Int → Qm → List (Qm × Bool)
  | 0, _, q => [(q, false)]
  | n + 1, now, q =>
    match q.items with
    | [] => [(q, false)]
    | x :: _ => if time < max now x.u.af then [(q, false)] else (q.begin (max now x.u.af), false) ::
        (if time < (q.begin (max now x.u.af)).en then [] else (q.begin (max now x.u.af), true) :: msI time n (q.begin (max now x.u.af)).en (q.begin (max now x.u.af)).silent)
def msL (time : Int) (n : Nat) (now : Int) (q : Qm) : List (Qm × Bool) :=
  if q.sp = true then (if time < q.en then [] else (q, true) :: msI time n q.en q.silent) else msI time n now q
def ms (time : Int) (q : Qm) : List (Qm × Bool) := msL time q.items.length q.clock q
theorem msL_end {time : Int} {n : Nat} {now : Int} {q : Qm} (hs : q.sp = true) (h : time < q.en) : msL time n now q = [] := by rw [msL, if_pos hs, if_pos h]
theorem msL_done {time : Int} {n : Nat} {now : Int} {q : Qm} (hs : q.sp = true) (h : ¬ time < q.en) : msL time n now q = (q, true) :: msI time n q.en q.silent := by rw [msL, if_pos hs, if_neg h]
theorem msL_still {time : Int} {n : Nat} {now : Int} {q : Qm} (hs : q.sp = false) : msL time n now q = msI time n now q := by rw [msL, if_neg (by simp [hs])]
theorem msI_nil {time now : Int} {q : Qm} (h : q.items = []) : ∀ n, msI time n now q = [(q, false)]
  | 0 => rfl
  | n + 1 => by rw [msI, h]
theorem msI_late {time now : Int} {n : Nat} {q : Qm} {x : Um} {l : List Um} (h : q.items = x :: l) (ht : time < max now x.u.af) : msI time (n + 1) now q = [(q, false)] := by
  rw [msI, h]; exact if_pos ht
theorem msI_begin {time now : Int} {n : Nat} {q : Qm} {x : Um} {l : List Um} (h : q.items = x :: l) (ht : ¬ time < max now x.u.af) (now' : Int) : msI time (n + 1) now q = (q.begin (max now x.u.af), false) :: msL time n now' (q.begin (max now x.u.af)) := by
  rw [msI, h]
  simp only
  rw [if_neg ht, msL, if_pos (show (q.begin (max now x.u.af)).sp = true from by rw [Qm.begin, h])]
/-- What a moment is, as values. -/
def yv (x : Qm × Bool) : Array Value := #[.agg x.1.cells.toArray, .bool x.2]
/-- What a round keeps of the iterator's. -/
def MK (Bq Bt B : Nat) (W W' : World) : Prop := W'.heap[Bq]? = W.heap[Bq]? ∧ W'.heap[Bt]? = W.heap[Bt]? ∧ Below B W W'
theorem MK.trans {Bq Bt B : Nat} {W W' W'' : World} (h : MK Bq Bt B W W') (k : MK Bq Bt B W' W'') : MK Bq Bt B W W'' := ⟨k.1.trans h.1, k.2.1.trans h.2.1, h.2.2.trans k.2.2⟩
/-- What the iterator's variables hold. -/
structure MI (Bq Bt B : Nat) (time : Int) (q0 q : Qm) (W : World) : Prop where
  vq : W.heap[Bq]? = some (.cells q.cells.toArray 28 (0, 0))
  vt : W.heap[Bt]? = some (.cells #[.int .i64 time] 3 (0, 0))
  qi : QIn W B q
  sub : ∀ m ∈ q.items, m ∈ q0.items
  len : q.items.length ≤ q0.items.length
  en : q.sp = true → 0 ≤ q.en
  sz : B ≤ W.heap.size
variable {Bq Bt B : Nat} {time : Int} {q0 q q' : Qm} {W W' : World}
theorem MI.keep (h : MI Bq Bt B time q0 q W) (k : MK Bq Bt B W W') : MI Bq Bt B time q0 q W' := ⟨k.1.trans h.vq, k.2.1.trans h.vt, h.qi.below k.2.2 (Nat.le_refl _), h.sub, h.len, h.en, Nat.le_trans h.sz k.2.2.size⟩
theorem MI.below (h : MI Bq Bt B time q0 q W) (hb : Below W.heap.size W W') : MI Bq Bt B time q0 q W' :=
  h.keep ⟨hb.block _ (Array.getElem?_eq_some_iff.1 h.vq).1, hb.block _ (Array.getElem?_eq_some_iff.1 h.vt).1, hb.mono h.sz⟩
theorem MI.put (h : MI Bq Bt B time q0 q W) (hne : Bt ≠ Bq) (hB : B ≤ Bq) (hg : W.grownBy W' (some Bq)) (hv : W'.heap[Bq]? = some (.cells q'.cells.toArray 28 (0, 0))) (hi : QIn W B q → QIn W B q') (hsub : ∀ m ∈ q'.items, m ∈ q.items) (hlen : q'.items.length ≤ q.items.length) (hen : q'.sp = true → 0 ≤ q'.en) : MI Bq Bt B time q0 q' W' :=
  have hb : Below B W W' := below_of_only hg hB h.sz
  ⟨hv, (hg.block Bt (Array.getElem?_eq_some_iff.1 h.vt).1 (fun e => by injection e with e; exact hne e)).trans h.vt, (hi h.qi).below hb (Nat.le_refl _), fun m hm => h.sub m (hsub m hm), Nat.le_trans hlen h.len, hen, Nat.le_trans h.sz hb.size⟩
theorem MI.cells (h : MI Bq Bt B time q0 q W) : W.cell? ⟨Bt, 0, none⟩ = some (.int .i64 time) := by
  have := cell_of_block_ (i := 0) h.vt
  simpa using this
end Q

set_option maxRecDepth 100000 in
set_option maxHeartbeats 4000000 in
theorem moments1_any (n : Nat) (hn : 1 ≤ n) (l Bq Bt B : Nat) (time : Int) (q0 : Q.Qm) (hT : time ≤ 1099511627776) (hck : 0 ≤ q0.clock) (hl : q0.items.length ≤ 16) (hs : ∀ m ∈ q0.items, Q.Small m.u)
    (hne : Bt ≠ Bq) (hBq : B ≤ Bq)
    (J : List (Q.Qm × Bool) → World → Prop) (hJ : ∀ s A B' row, J s A → A.grownBy B' row → (∀ r, row = some r → r = Bq) → J s B')
    (hY : ∀ pre x post W1, Q.ms time q0 = pre ++ x :: post → J pre W1 → YieldAt Fence.wide (n - 1) Try.prog l (Q.yv x) W1 fun e W' => e = .returned (.bool true) ∧ J (pre ++ [x]) W' ∧ Q.MK Bq Bt B W1 W')
    (W : World) (h0 : J [] W) (hm : Q.MI Bq Bt B time q0 q0 W) :
    CallsIn Fence.wide n Try.prog 55 #[.func (.yield l) #[] #[], .pointer (some ⟨Bq, 0, none⟩), .pointer (some ⟨Bt, 0, none⟩)] W fun e W' => (∃ v, e = .returned v) ∧ J (Q.ms time q0) W' := by
  have HY := Lib.hid hY
  have HJ := Lib.hid hJ
  have HS := Lib.hid hs
  have HM := Lib.hid hm
  have HT := Lib.hid hT
  have HL := Lib.hid hl
  have c0 := cell_of_block_ (i := 0) hm.vq
  simp [Q.Qm.cells] at c0
  clear hY hJ hs hm hT hl
  refine callsIn_of_wp Try.func55 rfl trivial ?_ rfl
  simp only [Try.ntmps55, List.size_toArray, List.length_cons, List.length_nil, Nat.reduceAdd, Nat.reduceSub, Array.replicate_succ, Array.replicate_zero, List.push_toArray, List.append_toArray, List.nil_append, List.cons_append]
  gi_wp2
  gi_loopg [4] (q0.items.length) (fun g p wr => ∃ (pre : List (Q.Qm × Bool)) (q : Q.Qm) (now : Int), p = .int .i64 now ∧ 0 ≤ now ∧ Hid (g = q.items.length) ∧ Hid (Q.ms time q0 = pre ++ Q.msL time q.items.length now q) ∧ J pre wr ∧ Hid (Q.MI Bq Bt B time q0 q wr))
  case atStart => exact ⟨[], q0, q0.clock, rfl, hck, Lib.hid rfl, Lib.hid rfl, h0, HM⟩
  case round =>
    clear c0 h0 HM
    obtain ⟨pre, q, now, rfl, hnow, hg, HX, hj, M⟩ := hrel
    rcases hq : q with ⟨ck, rt, sp, ⟨⟨p0, p1, p2, p3, p4⟩, a0, c0, a1, c1⟩, be, en, items, ai, ci⟩
    subst hq
    cases sp with
    | true =>
      have MQ := M.out.vq
      have k0 := cell_of_block_ (i := 0) MQ
      have k1 := cell_of_block_ (i := 1) MQ
      have k2 := cell_of_block_ (i := 2) MQ
      have k3 := cell_of_block_ (i := 3) MQ
      have k4 := cell_of_block_ (i := 4) MQ
      have k5 := cell_of_block_ (i := 5) MQ
      have k6 := cell_of_block_ (i := 6) MQ
      have k7 := cell_of_block_ (i := 7) MQ
      have k8 := cell_of_block_ (i := 8) MQ
      have k9 := cell_of_block_ (i := 9) MQ
      have k10 := cell_of_block_ (i := 10) MQ
      simp [Q.Qm.cells] at k0 k1 k2 k3 k4 k5 k6 k7 k8 k9 k10
      clear MQ
      have e2 := M.out.cells
      by_cases h1 : time < en
      · have h1' : decide (time < en) = true := decide_eq_true h1
        have HE : Hid (Q.ms time q0 = pre) := Lib.hid (by rw [HX.out, Q.msL_end rfl h1, List.append_nil])
        gi_wp2
        refine bodyPost_ret (results_none rfl _ _ _) rfl ?_
        exact ⟨⟨_, rfl⟩, by rw [HE.out]; exact hj⟩
      · have h1' : decide (time < en) = false := decide_eq_false h1
        have HX1 : Hid (Q.ms time q0 = pre ++ ((⟨ck, rt, true, ⟨⟨p0, p1, p2, p3, p4⟩, a0, c0, a1, c1⟩, be, en, items, ai, ci⟩ : Q.Qm), true) :: Q.msI time items.length en (Q.Qm.silent (⟨ck, rt, true, ⟨⟨p0, p1, p2, p3, p4⟩, a0, c0, a1, c1⟩, be, en, items, ai, ci⟩ : Q.Qm))) := Lib.hid (by rw [HX.out, Q.msL_done rfl h1])
        have hen : 0 ≤ en := M.out.en rfl
        have HIQ := Lib.hid infoQ
        clear HX h1
        obtain ⟨fn, tmps, assign, body, hy, hR⟩ := HY.out pre ((⟨ck, rt, true, ⟨⟨p0, p1, p2, p3, p4⟩, a0, c0, a1, c1⟩, be, en, items, ai, ci⟩ : Q.Qm), true) _ wr HX1.out hj
        simp only [Q.yv, Q.Qm.cells] at hy
        gi_wp2
        refine hR.mono ?_
        rintro e W3 ⟨rfl, hj3, hk3⟩
        have M3 := Lib.hid (M.out.keep hk3)
        clear hy hR hj hk3 M k0 k1 k2 k3 k4 k5 k6 k7 k8 k9 k10 e2
        have MQ := M3.out.vq
        have k0 := cell_of_block_ (i := 0) MQ
        have k1 := cell_of_block_ (i := 1) MQ
        have k2 := cell_of_block_ (i := 2) MQ
        have k3 := cell_of_block_ (i := 3) MQ
        have k4 := cell_of_block_ (i := 4) MQ
        have k5 := cell_of_block_ (i := 5) MQ
        have k6 := cell_of_block_ (i := 6) MQ
        have k7 := cell_of_block_ (i := 7) MQ
        have k8 := cell_of_block_ (i := 8) MQ
        have k9 := cell_of_block_ (i := 9) MQ
        have k10 := cell_of_block_ (i := 10) MQ
        simp [Q.Qm.cells] at k0 k1 k2 k3 k4 k5 k6 k7 k8 k9 k10
        clear MQ
        have SI := Lib.hid (silent_any (⟨ck, rt, true, ⟨⟨p0, p1, p2, p3, p4⟩, a0, c0, a1, c1⟩, be, en, items, ai, ci⟩ : Q.Qm) W3)
        gi_wp2_with (first
          | (refine ⟨trivial, ?_⟩; gi_at_call 42; refine (callsIn_wide.2 SI.out).mono ?_; clear SI; rintro e W4 ⟨rfl, b4⟩; (have hj4 := HJ.out _ _ _ none hj3 (below_grown b4) (fun r e => by cases e)); (have M4 := Lib.hid (M3.out.below b4)); (simp only [Q.Qm.cells, Q.Qm.silent]); clear hj3 M3 b4)
          | (refine wpListIn_store_blk rfl 28 (.tmp 1) (.tmp 20) rfl Bq 0 (Q.Qm.silent (⟨ck, rt, true, ⟨⟨p0, p1, p2, p3, p4⟩, a0, c0, a1, c1⟩, be, en, items, ai, ci⟩ : Q.Qm)).cells.toArray (⟨ck, rt, true, ⟨⟨p0, p1, p2, p3, p4⟩, a0, c0, a1, c1⟩, be, en, items, ai, ci⟩ : Q.Qm).cells.toArray 28 ?hx ?hy ?hv ?h1 ?h2 ?h3 ?h4; (case hx => rfl); (case hy => rfl); (case hv => exact M4.out.vq); (case h1 => simp [Q.Qm.cells]); (case h2 => simpa [Q.Qm.cells] using HIQ.out); (case h3 => simp [Value.oneCell', Q.Qm.cells]); intro W5 hv5 hg5))
        have hc5 : putAt (⟨ck, rt, true, ⟨⟨p0, p1, p2, p3, p4⟩, a0, c0, a1, c1⟩, be, en, items, ai, ci⟩ : Q.Qm).cells.toArray.toList 0 (Q.Qm.silent (⟨ck, rt, true, ⟨⟨p0, p1, p2, p3, p4⟩, a0, c0, a1, c1⟩, be, en, items, ai, ci⟩ : Q.Qm)).cells.toArray.toList = (Q.Qm.silent (⟨ck, rt, true, ⟨⟨p0, p1, p2, p3, p4⟩, a0, c0, a1, c1⟩, be, en, items, ai, ci⟩ : Q.Qm)).cells := by simp [putAt, Q.Qm.cells]
        rw [hc5] at hv5
        have hj := HJ.out _ _ _ _ hj4 hg5 (fun r e => by injection e with e; exact e.symm)
        have M := Lib.hid (M4.out.put hne hBq hg5 hv5 Q.QIn.silent (fun m hm => hm) (Nat.le_refl _) (fun e => by cases e))
        obtain ⟨qs, hqs⟩ : ∃ qs, Q.Qm.silent (⟨ck, rt, true, ⟨⟨p0, p1, p2, p3, p4⟩, a0, c0, a1, c1⟩, be, en, items, ai, ci⟩ : Q.Qm) = qs := ⟨_, rfl⟩
        have HX : Hid (Q.ms time q0 = (pre ++ [((⟨ck, rt, true, ⟨⟨p0, p1, p2, p3, p4⟩, a0, c0, a1, c1⟩, be, en, items, ai, ci⟩ : Q.Qm), true)]) ++ Q.msI time items.length en (Q.Qm.silent (⟨ck, rt, true, ⟨⟨p0, p1, p2, p3, p4⟩, a0, c0, a1, c1⟩, be, en, items, ai, ci⟩ : Q.Qm))) := Lib.hid (by rw [HX1.out]; simp)
        have hqsp : qs.sp = false := by rw [← hqs]; rfl
        have hqit : qs.items = items := by rw [← hqs]; rfl
        rw [hqs] at M HX
        obtain ⟨pre2, hpre2⟩ : ∃ p, pre ++ [((⟨ck, rt, true, ⟨⟨p0, p1, p2, p3, p4⟩, a0, c0, a1, c1⟩, be, en, items, ai, ci⟩ : Q.Qm), true)] = p := ⟨_, rfl⟩
        rw [hpre2] at HX hj
        clear hv5 hg5 hc5 hj4 M4 HX1 hqs hpre2 k0 k1 k2 k3 k4 k5 k6 k7 k8 k9 k10 h1'
        clear hnow
        rcases qs with ⟨ck', rt', sp', ⟨⟨p0', p1', p2', p3', p4'⟩, a0'', c0'', a1'', c1''⟩, be', en', items', ai', ci'⟩
        simp only at hqsp hqit
        subst hqsp hqit
        have MQ := M.out.vq
        have k0 := cell_of_block_ (i := 0) MQ
        have k1 := cell_of_block_ (i := 1) MQ
        have k2 := cell_of_block_ (i := 2) MQ
        have k3 := cell_of_block_ (i := 3) MQ
        have k4 := cell_of_block_ (i := 4) MQ
        have k5 := cell_of_block_ (i := 5) MQ
        have k6 := cell_of_block_ (i := 6) MQ
        have k7 := cell_of_block_ (i := 7) MQ
        have k8 := cell_of_block_ (i := 8) MQ
        have k9 := cell_of_block_ (i := 9) MQ
        have k10 := cell_of_block_ (i := 10) MQ
        simp [Q.Qm.cells] at k0 k1 k2 k3 k4 k5 k6 k7 k8 k9 k10
        clear MQ
        have e2 := M.out.cells
        rcases items' with _ | ⟨⟨⟨u0, u1, u2, u3, u4⟩, a0', c0', a1', c1'⟩, items'⟩
        · have HX2 : Hid (Q.ms time q0 = pre2 ++ [((⟨ck', rt', false, ⟨⟨p0', p1', p2', p3', p4'⟩, a0'', c0'', a1'', c1''⟩, be', en', [], ai', ci'⟩ : Q.Qm), false)]) := Lib.hid (by rw [HX.out, Q.msI_nil rfl])
          have hz : (((0 : Nat) : Int) == 0) = true := rfl
          simp only [List.length_nil] at k10
          clear HX
          gi_wp2
          refine wpIn_wide.2 ?_
          go_quiet (fail)
          have hj5 := HJ.out _ _ _ none hj (below_grown (below_drewN_ W5 nq)) (fun r e => by cases e)
          obtain ⟨fn, tmps, assign, body, hy, hR⟩ := HY.out pre2 ((⟨ck', rt', false, ⟨⟨p0', p1', p2', p3', p4'⟩, a0'', c0'', a1'', c1''⟩, be', en', [], ai', ci'⟩ : Q.Qm), false) [] (W5.drewN nq) HX2.out hj5
          simp only [Q.yv, Q.Qm.cells] at hy
          simp only [List.length_nil] at hy
          gi_wp2
          refine hR.mono ?_
          rintro e W6 ⟨rfl, hj6, hk6⟩
          gi_wp2
          refine bodyPost_ret (results_none rfl _ _ _) rfl ?_
          exact ⟨⟨_, rfl⟩, by rw [HX2.out]; exact hj6⟩
        · have hq := M.out.qi
          obtain ⟨b, off, rfl, hbB, hcl⟩ := Q.reads_at hq.items.row (by simp)
          obtain ⟨z0, z1, z2, z3, z4⟩ := hcl 0 (by simp)
          simp only [Nat.zero_mul, Nat.add_zero, List.getElem_cons_zero] at z0 z1 z2 z3 z4
          have q1 : (0 : Int) < ((items'.length + 1 : Nat) : Int) := by omega
          have q2 : (((items'.length + 1 : Nat) : Int) == 0) = false := beq_eq_false_iff_ne.2 (by omega)
          simp only [List.length_cons] at k10 hg
          clear hcl hq
          by_cases hgt : time < max en u3
          · have HX2 : Hid (Q.ms time q0 = pre2 ++ [((⟨ck', rt', false, ⟨⟨p0', p1', p2', p3', p4'⟩, a0'', c0'', a1'', c1''⟩, be', en', ⟨⟨u0, u1, u2, u3, u4⟩, a0', c0', a1', c1'⟩ :: items', some ⟨b, off, none⟩, ci'⟩ : Q.Qm), false)]) := Lib.hid (by rw [HX.out]; exact congrArg (pre2 ++ ·) (Q.msI_late rfl hgt))
            have hd : decide (time < max en u3) = true := decide_eq_true hgt
            clear HX hgt
            gi_wp2
            refine wpIn_wide.2 ?_
            go_quiet (fail)
            have hj5 := HJ.out _ _ _ none hj (below_grown (below_drewN_ W5 nq)) (fun r e => by cases e)
            obtain ⟨fn, tmps, assign, body, hy, hR⟩ := HY.out pre2 ((⟨ck', rt', false, ⟨⟨p0', p1', p2', p3', p4'⟩, a0'', c0'', a1'', c1''⟩, be', en', ⟨⟨u0, u1, u2, u3, u4⟩, a0', c0', a1', c1'⟩ :: items', some ⟨b, off, none⟩, ci'⟩ : Q.Qm), false) [] (W5.drewN nq) HX2.out hj5
            simp only [Q.yv, Q.Qm.cells] at hy
            simp only [List.length_cons] at hy
            gi_wp2
            refine hR.mono ?_
            rintro e W6 ⟨rfl, hj6, hk6⟩
            gi_wp2
            refine bodyPost_ret (results_none rfl _ _ _) rfl ?_
            exact ⟨⟨_, rfl⟩, by rw [HX2.out]; exact hj6⟩
          · have hd : decide (time < max en u3) = false := decide_eq_false hgt
            have SX := HS.out _ (M.out.sub _ (List.mem_cons_self ..))
            simp only at SX
            have hmx : 0 ≤ max en u3 ∧ max en u3 ≤ 1099511627776 := by have := HT.out; omega
            have DX := Q.Small.dur SX rt'
            have RX := Lib.hid (Q.Small.ready SX (r := rt') hmx.1 (Int.le_trans hmx.2 (by decide)))
            have HL9 := M.out.len
            have HL8 := HL.out
            have HX2 : Hid (∀ now', Q.ms time q0 = (pre2 ++ [((⟨ck', rt', false, ⟨⟨p0', p1', p2', p3', p4'⟩, a0'', c0'', a1'', c1''⟩, be', en', ⟨⟨u0, u1, u2, u3, u4⟩, a0', c0', a1', c1'⟩ :: items', some ⟨b, off, none⟩, ci'⟩ : Q.Qm).begin (max en u3), false)]) ++ Q.msL time items'.length now' ((⟨ck', rt', false, ⟨⟨p0', p1', p2', p3', p4'⟩, a0'', c0'', a1'', c1''⟩, be', en', ⟨⟨u0, u1, u2, u3, u4⟩, a0', c0', a1', c1'⟩ :: items', some ⟨b, off, none⟩, ci'⟩ : Q.Qm).begin (max en u3))) := Lib.hid (fun now' => by rw [HX.out, List.append_assoc]; exact congrArg (pre2 ++ ·) (Q.msI_begin (n := items'.length) (x := ⟨⟨u0, u1, u2, u3, u4⟩, a0', c0', a1', c1'⟩) (l := items') (q := (⟨ck', rt', false, ⟨⟨p0', p1', p2', p3', p4'⟩, a0'', c0'', a1'', c1''⟩, be', en', ⟨⟨u0, u1, u2, u3, u4⟩, a0', c0', a1', c1'⟩ :: items', some ⟨b, off, none⟩, ci'⟩ : Q.Qm)) rfl hgt now'))
            have BD := fun (W9 : World) (hW : Below W5.heap.size W5 W9) => begin_det (⟨ck', rt', false, ⟨⟨p0', p1', p2', p3', p4'⟩, a0'', c0'', a1'', c1''⟩, be', en', ⟨⟨u0, u1, u2, u3, u4⟩, a0', c0', a1', c1'⟩ :: items', some ⟨b, off, none⟩, ci'⟩ : Q.Qm) (max en u3) ⟨⟨u0, u1, u2, u3, u4⟩, a0', c0', a1', c1'⟩ items' B W9 (M.out.below hW).qi (M.out.below hW).sz rfl (by simp only [List.length_cons, maxLen] at HL9 ⊢; omega) RX.out.1 RX.out.2.1 RX.out.2.2
            simp only [List.length_cons] at HL9
            obtain ⟨mx, hmxe⟩ : ∃ mx, max en u3 = mx := ⟨_, rfl⟩
            simp only [Q.Qm.begin, Q.Qm.cells, List.length_cons] at BD HX2
            rw [hmxe] at BD HX2 hmx hd
            replace BD := Lib.hid BD
            have HIQ := Lib.hid infoQ
            have hbW : b < W5.heap.size := Nat.lt_of_lt_of_le hbB M.out.sz
            clear HX hgt RX SX
            gi_wp2
            refine wpIn_wide.2 ?_
            go_quiet (fail)
            gi_wp2
            have hj5 := HJ.out _ _ _ none hj (below_grown (below_drewN_ W5 nq)) (fun r e => by cases e)
            obtain ⟨wd, hwd⟩ : ∃ wd, W5.drewN nq = wd := ⟨_, rfl⟩
            have bd := below_drewN_ W5 nq
            rw [hwd] at bd hj5 ⊢
            have M5 := Lib.hid (M.out.below bd)
            have y0 := (bd.cell (p := ⟨b, off, none⟩) hbW).trans z0
            have y1 := (bd.cell (p := ⟨b, off + 1, none⟩) hbW).trans z1
            have y2 := (bd.cell (p := ⟨b, off + 2, none⟩) hbW).trans z2
            have y3 := (bd.cell (p := ⟨b, off + 3, none⟩) hbW).trans z3
            have y4 := (bd.cell (p := ⟨b, off + 4, none⟩) hbW).trans z4
            have BD5 := Lib.hid (fun n => BD.out (wd.drewN n) (bd.trans ((below_drewN_ wd n).mono bd.size)))
            clear hwd M bd BD hj z0 z1 z2 z3 z4 k0 k1 k2 k3 k4 k5 k6 k7 k8 k9 k10
            have MQ := M5.out.vq
            have k0 := cell_of_block_ (i := 0) MQ
            have k1 := cell_of_block_ (i := 1) MQ
            have k2 := cell_of_block_ (i := 2) MQ
            have k3 := cell_of_block_ (i := 3) MQ
            have k4 := cell_of_block_ (i := 4) MQ
            have k5 := cell_of_block_ (i := 5) MQ
            have k6 := cell_of_block_ (i := 6) MQ
            have k7 := cell_of_block_ (i := 7) MQ
            have k8 := cell_of_block_ (i := 8) MQ
            have k9 := cell_of_block_ (i := 9) MQ
            have k10 := cell_of_block_ (i := 10) MQ
            simp [Q.Qm.cells] at k0 k1 k2 k3 k4 k5 k6 k7 k8 k9 k10
            clear MQ
            try simp only [List.length_cons] at k10
            refine wpIn_wide.2 ?_
            go_still_tail 8, (by kernel_rfl)
            clear y0 y1 y2 y3 y4 k0 k1 k2 k3 k4 k5 k6 k7 k8 k9 k10
            have CQ : (⟨ck', rt', false, ⟨⟨p0', p1', p2', p3', p4'⟩, a0'', c0'', a1'', c1''⟩, be', en', ⟨⟨u0, u1, u2, u3, u4⟩, a0', c0', a1', c1'⟩ :: items', some ⟨b, off, none⟩, ci'⟩ : Q.Qm).cells.toArray.size = 11 := rfl
            go_wp2_with (first
              | (go_at_call 52; refine (BD5.out 1).mono ?_; clear BD5; rintro e W7 ⟨rfl, b7⟩; (have bd7 : Below wd.heap.size wd W7 := (below_drewN_ wd 1).trans (b7.mono (Nat.le_refl _))); (have M7 := Lib.hid (M5.out.below bd7)); (have hj7 := HJ.out _ _ _ none hj5 (below_grown bd7) (fun r e => by cases e)); clear b7 bd7 M5 hj5)
              | (refine wpList_store_blk rfl 28 (.tmp 1) (.tmp 47) rfl Bq 0 #[.int .i64 ck', .int .i64 rt', .bool true, .slice a0' u0.length c0', .slice a1' u1.length c1', .int .i64 u2, .int .i64 u3, .int .i64 u4, .int .i64 mx, .int .i64 (mx + Q.dur rt' ⟨u0, u1, u2, u3, u4⟩), .slice (Q.tailAt (some ⟨b, off, none⟩) ci') items'.length (ci' - 1)] (⟨ck', rt', false, ⟨⟨p0', p1', p2', p3', p4'⟩, a0'', c0'', a1'', c1''⟩, be', en', ⟨⟨u0, u1, u2, u3, u4⟩, a0', c0', a1', c1'⟩ :: items', some ⟨b, off, none⟩, ci'⟩ : Q.Qm).cells.toArray 28 ?hx ?hy ?hv (by simp [Q.Qm.cells]) HIQ.out (by simp [Value.oneCell']) ?_; (case hx => rfl); (case hy => rfl); (case hv => exact M7.out.vq); intro W9 hv9 hg9; (simp [putAt, Q.Qm.cells] at hv9)))
            have hj9 := HJ.out _ _ _ _ hj7 hg9 (fun r e => by injection e with e; exact e.symm)
            obtain ⟨q9, hq9⟩ : ∃ q9 : Q.Qm, ⟨ck', rt', true, ⟨⟨u0, u1, u2, u3, u4⟩, a0', c0', a1', c1'⟩, mx, mx + Q.dur rt' ⟨u0, u1, u2, u3, u4⟩, items', Q.tailAt (some ⟨b, off, none⟩) ci', ci' - 1⟩ = q9 := ⟨_, rfl⟩
            have hc9 : q9.cells = [.int .i64 ck', .int .i64 rt', .bool true, .slice a0' u0.length c0', .slice a1' u1.length c1', .int .i64 u2, .int .i64 u3, .int .i64 u4, .int .i64 mx, .int .i64 (mx + Q.dur rt' ⟨u0, u1, u2, u3, u4⟩), .slice (Q.tailAt (some ⟨b, off, none⟩) ci') items'.length (ci' - 1)] := by rw [← hq9]; rfl
            have hi9 : q9.items = items' := by rw [← hq9]
            have hb9 : (⟨ck', rt', false, ⟨⟨p0', p1', p2', p3', p4'⟩, a0'', c0'', a1'', c1''⟩, be', en', ⟨⟨u0, u1, u2, u3, u4⟩, a0', c0', a1', c1'⟩ :: items', some ⟨b, off, none⟩, ci'⟩ : Q.Qm).begin mx = q9 := by rw [← hq9]; rfl
            have M9 := Lib.hid (M7.out.put (q' := q9) hne hBq hg9 (by rw [hc9]; exact hv9) (fun h => hb9 ▸ h.begin mx) (fun m hm => List.mem_cons_of_mem _ (by rw [hi9] at hm; exact hm)) (by rw [hi9]; exact Nat.le_succ _) (fun _ => by rw [← hq9]; simp only; omega))
            rw [hq9] at HX2
            have HX9 : Hid (Q.ms time q0 = pre2 ++ (q9, false) :: Q.msL time items'.length en q9) := Lib.hid ((HX2.out en).trans (by simp))
            have HX8 : Hid (Q.ms time q0 = (pre2 ++ [(q9, false)]) ++ Q.msL time q9.items.length en q9) := Lib.hid (by rw [hi9]; exact HX2.out en)
            have MQ := M9.out.vq
            rw [hc9] at MQ
            have k0 := cell_of_block_ (i := 0) MQ
            have k1 := cell_of_block_ (i := 1) MQ
            have k2 := cell_of_block_ (i := 2) MQ
            have k3 := cell_of_block_ (i := 3) MQ
            have k4 := cell_of_block_ (i := 4) MQ
            have k5 := cell_of_block_ (i := 5) MQ
            have k6 := cell_of_block_ (i := 6) MQ
            have k7 := cell_of_block_ (i := 7) MQ
            have k8 := cell_of_block_ (i := 8) MQ
            have k9 := cell_of_block_ (i := 9) MQ
            have k10 := cell_of_block_ (i := 10) MQ
            simp [Q.Qm.cells] at k0 k1 k2 k3 k4 k5 k6 k7 k8 k9 k10
            clear MQ
            obtain ⟨fn, tmps, assign, body, hy, hR⟩ := HY.out pre2 (q9, false) _ W9 HX9.out hj9
            simp only [Q.yv, hc9] at hy
            have HG : Hid (gk = items'.length + 1) := hg
            have HI9 := Lib.hid hi9
            clear hv9 hg9 hj7 M7 hj9 HX2 HX9 hc9 hi9 hb9 hq9
            gi_wp2
            refine hR.mono ?_
            rintro e W10 ⟨rfl, hj10, hk10⟩
            have M10 := Lib.hid (M9.out.keep hk10)
            gi_wp2
            go_roundg items'.length
            case measure => have := HG.out; omega
            case rel => exact ⟨pre2 ++ [(q9, false)], q9, en, rfl, hen, Lib.hid (by rw [HI9.out]), HX8, hj10, M10⟩
    | false =>
      have HX' : Hid (Q.ms time q0 = pre ++ Q.msI time items.length now (⟨ck, rt, false, ⟨⟨p0, p1, p2, p3, p4⟩, a0, c0, a1, c1⟩, be, en, items, ai, ci⟩ : Q.Qm)) := Lib.hid (by rw [HX.out, Q.msL_still rfl])
      replace HX := HX'
      clear HX'
      have MQ := M.out.vq
      have k0 := cell_of_block_ (i := 0) MQ
      have k1 := cell_of_block_ (i := 1) MQ
      have k2 := cell_of_block_ (i := 2) MQ
      have k3 := cell_of_block_ (i := 3) MQ
      have k4 := cell_of_block_ (i := 4) MQ
      have k5 := cell_of_block_ (i := 5) MQ
      have k6 := cell_of_block_ (i := 6) MQ
      have k7 := cell_of_block_ (i := 7) MQ
      have k8 := cell_of_block_ (i := 8) MQ
      have k9 := cell_of_block_ (i := 9) MQ
      have k10 := cell_of_block_ (i := 10) MQ
      simp [Q.Qm.cells] at k0 k1 k2 k3 k4 k5 k6 k7 k8 k9 k10
      clear MQ
      have e2 := M.out.cells
      rcases items with _ | ⟨⟨⟨u0, u1, u2, u3, u4⟩, a0', c0', a1', c1'⟩, items⟩
      · have HX2 : Hid (Q.ms time q0 = pre ++ [((⟨ck, rt, false, ⟨⟨p0, p1, p2, p3, p4⟩, a0, c0, a1, c1⟩, be, en, [], ai, ci⟩ : Q.Qm), false)]) := Lib.hid (by rw [HX.out, Q.msI_nil rfl])
        have hz : (((0 : Nat) : Int) == 0) = true := rfl
        simp only [List.length_nil] at k10
        clear HX
        gi_wp2
        refine wpIn_wide.2 ?_
        go_quiet (fail)
        have hj5 := HJ.out _ _ _ none hj (below_grown (below_drewN_ wr nq)) (fun r e => by cases e)
        obtain ⟨fn, tmps, assign, body, hy, hR⟩ := HY.out pre ((⟨ck, rt, false, ⟨⟨p0, p1, p2, p3, p4⟩, a0, c0, a1, c1⟩, be, en, [], ai, ci⟩ : Q.Qm), false) [] (wr.drewN nq) HX2.out hj5
        simp only [Q.yv, Q.Qm.cells] at hy
        simp only [List.length_nil] at hy
        gi_wp2
        refine hR.mono ?_
        rintro e W6 ⟨rfl, hj6, hk6⟩
        gi_wp2
        refine bodyPost_ret (results_none rfl _ _ _) rfl ?_
        exact ⟨⟨_, rfl⟩, by rw [HX2.out]; exact hj6⟩
      · have hq := M.out.qi
        obtain ⟨b, off, rfl, hbB, hcl⟩ := Q.reads_at hq.items.row (by simp)
        obtain ⟨z0, z1, z2, z3, z4⟩ := hcl 0 (by simp)
        simp only [Nat.zero_mul, Nat.add_zero, List.getElem_cons_zero] at z0 z1 z2 z3 z4
        have q1 : (0 : Int) < ((items.length + 1 : Nat) : Int) := by omega
        have q2 : (((items.length + 1 : Nat) : Int) == 0) = false := beq_eq_false_iff_ne.2 (by omega)
        simp only [List.length_cons] at k10 hg
        clear hcl hq
        by_cases hgt : time < max now u3
        · have HX2 : Hid (Q.ms time q0 = pre ++ [((⟨ck, rt, false, ⟨⟨p0, p1, p2, p3, p4⟩, a0, c0, a1, c1⟩, be, en, ⟨⟨u0, u1, u2, u3, u4⟩, a0', c0', a1', c1'⟩ :: items, some ⟨b, off, none⟩, ci⟩ : Q.Qm), false)]) := Lib.hid (by rw [HX.out]; exact congrArg (pre ++ ·) (Q.msI_late rfl hgt))
          have hd : decide (time < max now u3) = true := decide_eq_true hgt
          clear HX hgt
          gi_wp2
          refine wpIn_wide.2 ?_
          go_quiet (fail)
          have hj5 := HJ.out _ _ _ none hj (below_grown (below_drewN_ wr nq)) (fun r e => by cases e)
          obtain ⟨fn, tmps, assign, body, hy, hR⟩ := HY.out pre ((⟨ck, rt, false, ⟨⟨p0, p1, p2, p3, p4⟩, a0, c0, a1, c1⟩, be, en, ⟨⟨u0, u1, u2, u3, u4⟩, a0', c0', a1', c1'⟩ :: items, some ⟨b, off, none⟩, ci⟩ : Q.Qm), false) [] (wr.drewN nq) HX2.out hj5
          simp only [Q.yv, Q.Qm.cells] at hy
          simp only [List.length_cons] at hy
          gi_wp2
          refine hR.mono ?_
          rintro e W6 ⟨rfl, hj6, hk6⟩
          gi_wp2
          refine bodyPost_ret (results_none rfl _ _ _) rfl ?_
          exact ⟨⟨_, rfl⟩, by rw [HX2.out]; exact hj6⟩
        · have hd : decide (time < max now u3) = false := decide_eq_false hgt
          have SX := HS.out _ (M.out.sub _ (List.mem_cons_self ..))
          simp only at SX
          have hmx : 0 ≤ max now u3 ∧ max now u3 ≤ 1099511627776 := by have := HT.out; omega
          have DX := Q.Small.dur SX rt
          have RX := Lib.hid (Q.Small.ready SX (r := rt) hmx.1 (Int.le_trans hmx.2 (by decide)))
          have HL9 := M.out.len
          have HL8 := HL.out
          have HX2 : Hid (∀ now', Q.ms time q0 = (pre ++ [((⟨ck, rt, false, ⟨⟨p0, p1, p2, p3, p4⟩, a0, c0, a1, c1⟩, be, en, ⟨⟨u0, u1, u2, u3, u4⟩, a0', c0', a1', c1'⟩ :: items, some ⟨b, off, none⟩, ci⟩ : Q.Qm).begin (max now u3), false)]) ++ Q.msL time items.length now' ((⟨ck, rt, false, ⟨⟨p0, p1, p2, p3, p4⟩, a0, c0, a1, c1⟩, be, en, ⟨⟨u0, u1, u2, u3, u4⟩, a0', c0', a1', c1'⟩ :: items, some ⟨b, off, none⟩, ci⟩ : Q.Qm).begin (max now u3))) := Lib.hid (fun now' => by rw [HX.out, List.append_assoc]; exact congrArg (pre ++ ·) (Q.msI_begin (n := items.length) (x := ⟨⟨u0, u1, u2, u3, u4⟩, a0', c0', a1', c1'⟩) (l := items) (q := (⟨ck, rt, false, ⟨⟨p0, p1, p2, p3, p4⟩, a0, c0, a1, c1⟩, be, en, ⟨⟨u0, u1, u2, u3, u4⟩, a0', c0', a1', c1'⟩ :: items, some ⟨b, off, none⟩, ci⟩ : Q.Qm)) rfl hgt now'))
          have BD := fun (W9 : World) (hW : Below wr.heap.size wr W9) => begin_det (⟨ck, rt, false, ⟨⟨p0, p1, p2, p3, p4⟩, a0, c0, a1, c1⟩, be, en, ⟨⟨u0, u1, u2, u3, u4⟩, a0', c0', a1', c1'⟩ :: items, some ⟨b, off, none⟩, ci⟩ : Q.Qm) (max now u3) ⟨⟨u0, u1, u2, u3, u4⟩, a0', c0', a1', c1'⟩ items B W9 (M.out.below hW).qi (M.out.below hW).sz rfl (by simp only [List.length_cons, maxLen] at HL9 ⊢; omega) RX.out.1 RX.out.2.1 RX.out.2.2
          simp only [List.length_cons] at HL9
          obtain ⟨mx, hmxe⟩ : ∃ mx, max now u3 = mx := ⟨_, rfl⟩
          simp only [Q.Qm.begin, Q.Qm.cells, List.length_cons] at BD HX2
          rw [hmxe] at BD HX2 hmx hd
          replace BD := Lib.hid BD
          have HIQ := Lib.hid infoQ
          have hbW : b < wr.heap.size := Nat.lt_of_lt_of_le hbB M.out.sz
          clear HX hgt RX SX
          gi_wp2
          refine wpIn_wide.2 ?_
          go_quiet (fail)
          gi_wp2
          have hj5 := HJ.out _ _ _ none hj (below_grown (below_drewN_ wr nq)) (fun r e => by cases e)
          obtain ⟨wd, hwd⟩ : ∃ wd, wr.drewN nq = wd := ⟨_, rfl⟩
          have bd := below_drewN_ wr nq
          rw [hwd] at bd hj5 ⊢
          have M5 := Lib.hid (M.out.below bd)
          have y0 := (bd.cell (p := ⟨b, off, none⟩) hbW).trans z0
          have y1 := (bd.cell (p := ⟨b, off + 1, none⟩) hbW).trans z1
          have y2 := (bd.cell (p := ⟨b, off + 2, none⟩) hbW).trans z2
          have y3 := (bd.cell (p := ⟨b, off + 3, none⟩) hbW).trans z3
          have y4 := (bd.cell (p := ⟨b, off + 4, none⟩) hbW).trans z4
          have BD5 := Lib.hid (fun n => BD.out (wd.drewN n) (bd.trans ((below_drewN_ wd n).mono bd.size)))
          clear hwd M bd BD hj z0 z1 z2 z3 z4 k0 k1 k2 k3 k4 k5 k6 k7 k8 k9 k10
          have MQ := M5.out.vq
          have k0 := cell_of_block_ (i := 0) MQ
          have k1 := cell_of_block_ (i := 1) MQ
          have k2 := cell_of_block_ (i := 2) MQ
          have k3 := cell_of_block_ (i := 3) MQ
          have k4 := cell_of_block_ (i := 4) MQ
          have k5 := cell_of_block_ (i := 5) MQ
          have k6 := cell_of_block_ (i := 6) MQ
          have k7 := cell_of_block_ (i := 7) MQ
          have k8 := cell_of_block_ (i := 8) MQ
          have k9 := cell_of_block_ (i := 9) MQ
          have k10 := cell_of_block_ (i := 10) MQ
          simp [Q.Qm.cells] at k0 k1 k2 k3 k4 k5 k6 k7 k8 k9 k10
          clear MQ
          try simp only [List.length_cons] at k10
          refine wpIn_wide.2 ?_
          go_still_tail 8, (by kernel_rfl)
          clear y0 y1 y2 y3 y4 k0 k1 k2 k3 k4 k5 k6 k7 k8 k9 k10
          have CQ : (⟨ck, rt, false, ⟨⟨p0, p1, p2, p3, p4⟩, a0, c0, a1, c1⟩, be, en, ⟨⟨u0, u1, u2, u3, u4⟩, a0', c0', a1', c1'⟩ :: items, some ⟨b, off, none⟩, ci⟩ : Q.Qm).cells.toArray.size = 11 := rfl
          go_wp2_with (first
            | (go_at_call 52; refine (BD5.out 1).mono ?_; clear BD5; rintro e W7 ⟨rfl, b7⟩; (have bd7 : Below wd.heap.size wd W7 := (below_drewN_ wd 1).trans (b7.mono (Nat.le_refl _))); (have M7 := Lib.hid (M5.out.below bd7)); (have hj7 := HJ.out _ _ _ none hj5 (below_grown bd7) (fun r e => by cases e)); clear b7 bd7 M5 hj5)
            | (refine wpList_store_blk rfl 28 (.tmp 1) (.tmp 47) rfl Bq 0 #[.int .i64 ck, .int .i64 rt, .bool true, .slice a0' u0.length c0', .slice a1' u1.length c1', .int .i64 u2, .int .i64 u3, .int .i64 u4, .int .i64 mx, .int .i64 (mx + Q.dur rt ⟨u0, u1, u2, u3, u4⟩), .slice (Q.tailAt (some ⟨b, off, none⟩) ci) items.length (ci - 1)] (⟨ck, rt, false, ⟨⟨p0, p1, p2, p3, p4⟩, a0, c0, a1, c1⟩, be, en, ⟨⟨u0, u1, u2, u3, u4⟩, a0', c0', a1', c1'⟩ :: items, some ⟨b, off, none⟩, ci⟩ : Q.Qm).cells.toArray 28 ?hx ?hy ?hv (by simp [Q.Qm.cells]) HIQ.out (by simp [Value.oneCell']) ?_; (case hx => rfl); (case hy => rfl); (case hv => exact M7.out.vq); intro W9 hv9 hg9; (simp [putAt, Q.Qm.cells] at hv9)))
          have hj9 := HJ.out _ _ _ _ hj7 hg9 (fun r e => by injection e with e; exact e.symm)
          obtain ⟨q9, hq9⟩ : ∃ q9 : Q.Qm, ⟨ck, rt, true, ⟨⟨u0, u1, u2, u3, u4⟩, a0', c0', a1', c1'⟩, mx, mx + Q.dur rt ⟨u0, u1, u2, u3, u4⟩, items, Q.tailAt (some ⟨b, off, none⟩) ci, ci - 1⟩ = q9 := ⟨_, rfl⟩
          have hc9 : q9.cells = [.int .i64 ck, .int .i64 rt, .bool true, .slice a0' u0.length c0', .slice a1' u1.length c1', .int .i64 u2, .int .i64 u3, .int .i64 u4, .int .i64 mx, .int .i64 (mx + Q.dur rt ⟨u0, u1, u2, u3, u4⟩), .slice (Q.tailAt (some ⟨b, off, none⟩) ci) items.length (ci - 1)] := by rw [← hq9]; rfl
          have hi9 : q9.items = items := by rw [← hq9]
          have hb9 : (⟨ck, rt, false, ⟨⟨p0, p1, p2, p3, p4⟩, a0, c0, a1, c1⟩, be, en, ⟨⟨u0, u1, u2, u3, u4⟩, a0', c0', a1', c1'⟩ :: items, some ⟨b, off, none⟩, ci⟩ : Q.Qm).begin mx = q9 := by rw [← hq9]; rfl
          have M9 := Lib.hid (M7.out.put (q' := q9) hne hBq hg9 (by rw [hc9]; exact hv9) (fun h => hb9 ▸ h.begin mx) (fun m hm => List.mem_cons_of_mem _ (by rw [hi9] at hm; exact hm)) (by rw [hi9]; exact Nat.le_succ _) (fun _ => by rw [← hq9]; simp only; omega))
          rw [hq9] at HX2
          have HX9 : Hid (Q.ms time q0 = pre ++ (q9, false) :: Q.msL time items.length now q9) := Lib.hid ((HX2.out now).trans (by simp))
          have HX8 : Hid (Q.ms time q0 = (pre ++ [(q9, false)]) ++ Q.msL time q9.items.length now q9) := Lib.hid (by rw [hi9]; exact HX2.out now)
          have MQ := M9.out.vq
          rw [hc9] at MQ
          have k0 := cell_of_block_ (i := 0) MQ
          have k1 := cell_of_block_ (i := 1) MQ
          have k2 := cell_of_block_ (i := 2) MQ
          have k3 := cell_of_block_ (i := 3) MQ
          have k4 := cell_of_block_ (i := 4) MQ
          have k5 := cell_of_block_ (i := 5) MQ
          have k6 := cell_of_block_ (i := 6) MQ
          have k7 := cell_of_block_ (i := 7) MQ
          have k8 := cell_of_block_ (i := 8) MQ
          have k9 := cell_of_block_ (i := 9) MQ
          have k10 := cell_of_block_ (i := 10) MQ
          simp [Q.Qm.cells] at k0 k1 k2 k3 k4 k5 k6 k7 k8 k9 k10
          clear MQ
          obtain ⟨fn, tmps, assign, body, hy, hR⟩ := HY.out pre (q9, false) _ W9 HX9.out hj9
          simp only [Q.yv, hc9] at hy
          have HG : Hid (gk = items.length + 1) := hg
          have HI9 := Lib.hid hi9
          clear hv9 hg9 hj7 M7 hj9 HX2 HX9 hc9 hi9 hb9 hq9
          gi_wp2
          refine hR.mono ?_
          rintro e W10 ⟨rfl, hj10, hk10⟩
          have M10 := Lib.hid (M9.out.keep hk10)
          gi_wp2
          go_roundg items.length
          case measure => have := HG.out; omega
          case rel => exact ⟨pre ++ [(q9, false)], q9, now, rfl, hnow, Lib.hid (by rw [HI9.out]), HX8, hj10, M10⟩

end Go.Proofs.Ytfjkelngdljikaa
