/-
  The walks of layer 18: Find. By an AI agent.
-/
import Derived.Test.YthohninbelhddaaBe
import Derived.Test.YthohninbelhddaaPFind
namespace Go.Proofs.Ythohninbelhddaa
open Go.RowKit

attribute [local go_sem] guard44 guard47

/-- The boxes of the two views, and the variable 'best'. -/
structure C.FB (w : World) (N Bb : Nat) (ca cb : Array Value) (g t e k : Int) : Prop where
  a : w.heap[N]? = some (.cells ca 24 (0, 0))
  b : w.heap[N + 1]? = some (.cells cb 24 (0, 0))
  best : w.heap[Bb]? = some (.cells #[.int .i64 g, .int .i64 t, .int .i64 e, .int .i64 k] 47 (0, 0))
theorem C.blk_cell {w : World} {N : Nat} {c : Array Value} {t : TypeId} (h : w.heap[N]? = some (.cells c t (0, 0))) (j : Nat) : w.cell? ⟨N, j, none⟩ = c[j]? := by simp [World.cell?, h]
theorem C.blk_frozen {w : World} {N : Nat} {c : Array Value} {t : TypeId} (h : w.heap[N]? = some (.cells c t (0, 0))) (j : Nat) : w.frozen? ⟨N, j, none⟩ = false := by simp [World.frozen?, h]
theorem C.FB.below {w w' : World} {N Bb : Nat} {ca cb : Array Value} {g t e k : Int} (h : C.FB w N Bb ca cb g t e k) (hb : Below w.heap.size w w') : C.FB w' N Bb ca cb g t e k :=
  ⟨(hb.block N (Array.getElem?_eq_some_iff.1 h.a).1).trans h.a, (hb.block (N + 1) (Array.getElem?_eq_some_iff.1 h.b).1).trans h.b, (hb.block Bb (Array.getElem?_eq_some_iff.1 h.best).1).trans h.best⟩
theorem C.FB.lt {w : World} {N Bb : Nat} {ca cb : Array Value} {g t e k : Int} (h : C.FB w N Bb ca cb g t e k) : N < w.heap.size ∧ N + 1 < w.heap.size ∧ Bb < w.heap.size :=
  ⟨(Array.getElem?_eq_some_iff.1 h.a).1, (Array.getElem?_eq_some_iff.1 h.b).1, (Array.getElem?_eq_some_iff.1 h.best).1⟩
theorem C.set4 {w : World} {Bb : Nat} {g t e k g' t' e' k' : Int} (h : w.heap[Bb]? = some (.cells #[.int .i64 g, .int .i64 t, .int .i64 e, .int .i64 k] 47 (0, 0))) :
    ((((w.setCell ⟨Bb, 0, none⟩ (.int .i64 g')).setCell ⟨Bb, 1, none⟩ (.int .i64 t')).setCell ⟨Bb, 2, none⟩ (.int .i64 e')).setCell ⟨Bb, 3, none⟩ (.int .i64 k')).heap[Bb]? = some (.cells #[.int .i64 g', .int .i64 t', .int .i64 e', .int .i64 k'] 47 (0, 0)) := by
  have s : ∀ (u : World) (c : Array Value) (j : Nat) (v : Value), u.heap[Bb]? = some (.cells c 47 (0, 0)) → (u.setCell ⟨Bb, j, none⟩ v).heap[Bb]? = some (.cells (c.setIfInBounds j v) 47 (0, 0)) := fun u c j v hu => heap_setCell_same u Bb j c 47 v hu
  have := s _ _ 3 (.int .i64 k') (s _ _ 2 (.int .i64 e') (s _ _ 1 (.int .i64 t') (s _ _ 0 (.int .i64 g') h)))
  simpa using this

theorem C.heap_new (w : World) (o : Obj) : (w.alloc o).heap[w.heap.size]? = some o := by show (w.heap.push o)[w.heap.size]? = some o; simp
theorem C.set6 {w : World} {R : Nat} {c0 c1 c2 c3 c4 c5 : Value} (h : w.heap[R]? = some (.cells #[c0, c1, c2, c3, c4, c5] 29 (0, 0))) (v0 v1 v2 v3 v4 v5 : Value) :
    ((((((w.setCell ⟨R, 0, none⟩ v0).setCell ⟨R, 1, none⟩ v1).setCell ⟨R, 2, none⟩ v2).setCell ⟨R, 3, none⟩ v3).setCell ⟨R, 4, none⟩ v4).setCell ⟨R, 5, none⟩ v5).heap[R]? = some (.cells #[v0, v1, v2, v3, v4, v5] 29 (0, 0)) := by
  have s : ∀ (u : World) (c : Array Value) (j : Nat) (v : Value), u.heap[R]? = some (.cells c 29 (0, 0)) → (u.setCell ⟨R, j, none⟩ v).heap[R]? = some (.cells (c.setIfInBounds j v) 29 (0, 0)) := fun u c j v hu => heap_setCell_same u R j c 29 v hu
  have := s _ _ 5 v5 (s _ _ 4 v4 (s _ _ 3 v3 (s _ _ 2 v2 (s _ _ 1 v1 (s _ _ 0 v0 h)))))
  simpa using this
theorem C.bel6 {w w1 : World} {R : Nat} (h : Below w.heap.size w w1) (hR : w.heap.size ≤ R) (v0 v1 v2 v3 v4 v5 : Value) :
    Below w.heap.size w ((((((w1.setCell ⟨R, 0, none⟩ v0).setCell ⟨R, 1, none⟩ v1).setCell ⟨R, 2, none⟩ v2).setCell ⟨R, 3, none⟩ v3).setCell ⟨R, 4, none⟩ v4).setCell ⟨R, 5, none⟩ v5) :=
  (((((h.setCell hR v0).setCell hR v1).setCell hR v2).setCell hR v3).setCell hR v4).setCell hR v5
/-- What holds in Find's loops. -/
structure C.FI (w : World) (N Bb : Nat) (ca cb z : Array Value) (g : Int) (m : V.Sc) (wr : World) : Prop where
  fb : C.FB wr N Bb ca cb g m.t m.e m.k
  res : wr.heap[N + 1 + 1]? = some (.cells z 29 (0, 0))
  bel : Below w.heap.size w wr
  lo : N + 1 + 1 < Bb
theorem C.FI.below {w wr w' : World} {N Bb : Nat} {ca cb z : Array Value} {g : Int} {m : V.Sc} (h : C.FI w N Bb ca cb z g m wr) (hb : Below wr.heap.size wr w') : C.FI w N Bb ca cb z g m w' :=
  ⟨h.fb.below hb, (hb.block _ (Array.getElem?_eq_some_iff.1 h.res).1).trans h.res, h.bel.trans (hb.mono h.bel.size), h.lo⟩

theorem C.FI.put {w wr : World} {Bb : Nat} {ca cb z : Array Value} {g : Int} {m : V.Sc} (h : C.FI w w.heap.size Bb ca cb z g m wr) (G t e k : Int) :
    C.FI w w.heap.size Bb ca cb z G ⟨t, e, k⟩ ((((wr.setCell ⟨Bb, 0, none⟩ (.int .i64 G)).setCell ⟨Bb, 1, none⟩ (.int .i64 t)).setCell ⟨Bb, 2, none⟩ (.int .i64 e)).setCell ⟨Bb, 3, none⟩ (.int .i64 k)) := by
  have lo := h.lo
  have o : ∀ (u : World) (j N : Nat) (v : Value), N < Bb → (u.setCell ⟨Bb, j, none⟩ v).heap[N]? = u.heap[N]? := fun u j N v hN => heap_setCell_other u ⟨Bb, j, none⟩ N v (by show N ≠ Bb; omega)
  have hR : w.heap.size ≤ Bb := by omega
  refine ⟨⟨?_, ?_, C.set4 h.fb.best⟩, ?_, (((h.bel.setCell hR _).setCell hR _).setCell hR _).setCell hR _, lo⟩
  · rw [o _ _ _ _ (by omega), o _ _ _ _ (by omega), o _ _ _ _ (by omega), o _ _ _ _ (by omega)]; exact h.fb.a
  · rw [o _ _ _ _ (by omega), o _ _ _ _ (by omega), o _ _ _ _ (by omega), o _ _ _ _ (by omega)]; exact h.fb.b
  · rw [o _ _ _ _ (by omega), o _ _ _ _ (by omega), o _ _ _ _ (by omega), o _ _ _ _ (by omega)]; exact h.res

/-- What Find returns: the scroll of the best, if there is one. -/
def C.chv : Option V.Sc → Value
  | none => .agg #[.int .i64 0, .int .i64 0, .int .i64 0, .int .i64 0, .int .i64 0, .slice none 0 0]
  | some m => .agg #[.int .i64 2, .int .i64 m.t, .int .i64 0, .int .i64 m.k, .int .i64 m.e, .slice none 0 0]

set_option maxRecDepth 100000 in
set_option maxHeartbeats 16000000 in
theorem find_any (B : Nat) (a b : C.VR) (w : World) (ha : C.Rv w B a.A a.rs) (hb : C.Rv w B b.A b.rs) (hB : B ≤ w.heap.size) (hal : a.rs.length ≤ 1000) :
    Calls Try.prog 13 #[a.val, b.val] w fun e' w' => (∃ o : Option V.Sc, e' = .returned (.tuple #[C.chv o, .bool o.isSome]) ∧ (C.mt a.ht b.ht a.rs.length b.rs.length = false → o = none) ∧ (C.mt a.ht b.ht a.rs.length b.rs.length = true → V.Best (fun c => V.gain a.gl b.gl c.t c.e c.k) (V.All a.rs.length) o)) ∧ Below w.heap.size w w' := by
  have MT := Lib.hid (fun w' => match_any a b w')
  have GN : Hid (∀ w', Below w.heap.size w w' → C.mt a.ht b.ht a.rs.length b.rs.length = true → ∀ t e k, V.poss a.rs.length t e k → Calls Try.prog 25 #[a.val, b.val, .int .i64 t, .int .i64 e, .int .i64 k] w' fun e' w'' => e' = .returned (.int .i64 (V.gain a.gl b.gl t e k)) ∧ Below w'.heap.size w' w'') := Lib.hid (fun w' hbl hm t e k hp => by
    have h := of_decide_eq_true hm
    exact gain_any B a b t e k w' (ha.below hbl hB) (hb.below hbl hB) (Nat.le_trans hB hbl.size) hal (by omega) hp)
  have HGL : Hid (∀ t e k, V.poss a.rs.length t e k → V.gain a.gl b.gl t e k ≤ e - t ∧ t - e ≤ V.gain a.gl b.gl t e k) := Lib.hid (fun t e k hp => V.gain_le _ _ _ _ _ hp.1 (by have := hp.2.1; omega))
  clear ha hb
  obtain ⟨g, hg⟩ : ∃ g : V.Sc → Int, (fun c : V.Sc => V.gain a.gl b.gl c.t c.e c.k) = g := ⟨_, rfl⟩
  have hgv : ∀ t e k, V.gain a.gl b.gl t e k = g ⟨t, e, k⟩ := fun t e k => by rw [← hg]
  simp only [hgv] at GN HGL
  rw [hg]
  clear hg hgv
  obtain ⟨aw, ah, aA, ac, ars, ar, aco, av⟩ := a
  obtain ⟨bw, bh, bA, bc, brs, br, bco, bv⟩ := b
  dsimp only [C.VR.val] at *
  obtain ⟨W, hW⟩ : ∃ W, ((w.alloc (.cells #[.int .i64 aw, .int .i64 ah, .slice aA ars.length ac, .int .i64 ar, .int .i64 aco, .bool av] 24)).alloc (.cells #[.int .i64 bw, .int .i64 bh, .slice bA brs.length bc, .int .i64 br, .int .i64 bco, .bool bv] 24)).alloc (.cells #[.int .i64 0, .int .i64 0, .int .i64 0, .int .i64 0, .int .i64 0, .slice none 0 0] 29) = W := ⟨_, rfl⟩
  have hbW : Below w.heap.size w W := by rw [← hW]; exact (((Below.refl _ w).alloc (Nat.le_refl _) _).alloc (by simp) _).alloc (by simp <;> omega) _
  have W0 : W.heap[w.heap.size]? = some (.cells #[.int .i64 aw, .int .i64 ah, .slice aA ars.length ac, .int .i64 ar, .int .i64 aco, .bool av] 24 (0, 0)) := by
    rw [← hW]
    exact (Below.heap_alloc _ _ _ (by simp <;> omega)).trans ((Below.heap_alloc _ _ _ (by simp)).trans (C.heap_new w _))
  have W1 : W.heap[w.heap.size + 1]? = some (.cells #[.int .i64 bw, .int .i64 bh, .slice bA brs.length bc, .int .i64 br, .int .i64 bco, .bool bv] 24 (0, 0)) := by
    rw [← hW]
    have := C.heap_new (w.alloc (.cells #[.int .i64 aw, .int .i64 ah, .slice aA ars.length ac, .int .i64 ar, .int .i64 aco, .bool av] 24)) (.cells #[.int .i64 bw, .int .i64 bh, .slice bA brs.length bc, .int .i64 br, .int .i64 bco, .bool bv] 24)
    rw [World.size_alloc] at this
    exact (Below.heap_alloc _ _ _ (by simp)).trans this
  have W2 : W.heap[w.heap.size + 1 + 1]? = some (.cells #[.int .i64 0, .int .i64 0, .int .i64 0, .int .i64 0, .int .i64 0, .slice none 0 0] 29 (0, 0)) := by
    rw [← hW]
    have := C.heap_new ((w.alloc (.cells #[.int .i64 aw, .int .i64 ah, .slice aA ars.length ac, .int .i64 ar, .int .i64 aco, .bool av] 24)).alloc (.cells #[.int .i64 bw, .int .i64 bh, .slice bA brs.length bc, .int .i64 br, .int .i64 bco, .bool bv] 24)) (.cells #[.int .i64 0, .int .i64 0, .int .i64 0, .int .i64 0, .int .i64 0, .slice none 0 0] 29)
    rw [World.size_alloc, World.size_alloc] at this
    exact this
  have HW := Lib.hid hW
  clear hW
  have W0' := Lib.hid W0
  have W1' := Lib.hid W1
  have W2' := Lib.hid W2
  have a0 := C.blk_cell W0 0
  have b0 := C.blk_cell W1 0
  have a1 := C.blk_cell W0 1
  have b1 := C.blk_cell W1 1
  have a2 := C.blk_cell W0 2
  have b2 := C.blk_cell W1 2
  have a3 := C.blk_cell W0 3
  have b3 := C.blk_cell W1 3
  have a4 := C.blk_cell W0 4
  have b4 := C.blk_cell W1 4
  have a5 := C.blk_cell W0 5
  have b5 := C.blk_cell W1 5
  simp only [List.getElem?_toArray, List.getElem?_cons_zero, List.getElem?_cons_succ] at a0 b0 a1 b1 a2 b2 a3 b3 a4 b4 a5 b5
  clear W0 W1 W2
  go_enter Try.func13, Try.ntmps13
  go_wp2_with fail
  rw [HW.out]
  refine (MT.out W).mono ?_
  rintro e' w1 ⟨rfl, b1'⟩
  have hb1 := hbW.trans (b1'.mono hbW.size)
  have B0 := Lib.hid ((b1'.block _ (Array.getElem?_eq_some_iff.1 W0'.out).1).trans W0'.out)
  have B1 := Lib.hid ((b1'.block _ (Array.getElem?_eq_some_iff.1 W1'.out).1).trans W1'.out)
  have B2 := Lib.hid ((b1'.block _ (Array.getElem?_eq_some_iff.1 W2'.out).1).trans W2'.out)
  clear a0 b0 a1 b1 a2 b2 a3 b3 a4 b4 a5 b5
  have a0 := C.blk_cell B0.out 0
  have b0 := C.blk_cell B1.out 0
  have r0 := C.blk_cell B2.out 0
  have s0 := C.blk_frozen B2.out 0
  have a1 := C.blk_cell B0.out 1
  have b1 := C.blk_cell B1.out 1
  have r1 := C.blk_cell B2.out 1
  have s1 := C.blk_frozen B2.out 1
  have a2 := C.blk_cell B0.out 2
  have b2 := C.blk_cell B1.out 2
  have r2 := C.blk_cell B2.out 2
  have s2 := C.blk_frozen B2.out 2
  have a3 := C.blk_cell B0.out 3
  have b3 := C.blk_cell B1.out 3
  have r3 := C.blk_cell B2.out 3
  have s3 := C.blk_frozen B2.out 3
  have a4 := C.blk_cell B0.out 4
  have b4 := C.blk_cell B1.out 4
  have r4 := C.blk_cell B2.out 4
  have s4 := C.blk_frozen B2.out 4
  have a5 := C.blk_cell B0.out 5
  have b5 := C.blk_cell B1.out 5
  have r5 := C.blk_cell B2.out 5
  have s5 := C.blk_frozen B2.out 5
  simp only [List.getElem?_toArray, List.getElem?_cons_zero, List.getElem?_cons_succ] at a0 b0 r0 a1 b1 r1 a2 b2 r2 a3 b3 r3 a4 b4 r4 a5 b5 r5
  cases hm : C.mt ah bh ars.length brs.length
  · have h6 := C.set6 B2.out (.int .i64 0) (.int .i64 0) (.int .i64 0) (.int .i64 0) (.int .i64 0) (.slice none 0 0)
    have z0 := C.blk_cell h6 0
    have z1 := C.blk_cell h6 1
    have z2 := C.blk_cell h6 2
    have z3 := C.blk_cell h6 3
    have z4 := C.blk_cell h6 4
    have z5 := C.blk_cell h6 5
    simp only [List.getElem?_toArray, List.getElem?_cons_zero, List.getElem?_cons_succ] at z0 z1 z2 z3 z4 z5
    have hb6 := C.bel6 (R := w.heap.size + 1 + 1) hb1 (by omega) (.int .i64 0) (.int .i64 0) (.int .i64 0) (.int .i64 0) (.int .i64 0) (.slice none 0 0)
    have H6 := Lib.hid h6
    clear h6
    go_wp2_with fail
    refine bodyPost_ret (v := .tuple #[C.chv none, .bool false]) (by simp [results, Try.results13, go_sem, C.chv, *]) rfl ?_
    exact ⟨⟨none, rfl, fun _ => rfl, fun h => absurd (hm.symm.trans h) (by decide)⟩, hb6⟩
  · obtain ⟨n, hn⟩ : ∃ n : Nat, ars.length = n := ⟨_, rfl⟩
    obtain ⟨Bb, hBb⟩ : ∃ Bb, w1.heap.size = Bb := ⟨_, rfl⟩
    have hbn : Below w.heap.size w (w1.alloc (.cells #[.int .i64 0, .int .i64 0, .int .i64 0, .int .i64 0] 47)) := hb1.alloc hb1.size _
    have FI0 : Hid (C.FI w w.heap.size Bb #[.int .i64 aw, .int .i64 ah, .slice aA ars.length ac, .int .i64 ar, .int .i64 aco, .bool av] #[.int .i64 bw, .int .i64 bh, .slice bA brs.length bc, .int .i64 br, .int .i64 bco, .bool bv] #[.int .i64 0, .int .i64 0, .int .i64 0, .int .i64 0, .int .i64 0, .slice none 0 0] (V.bg g none) (V.bs none) (w1.alloc (.cells #[.int .i64 0, .int .i64 0, .int .i64 0, .int .i64 0] 47))) := Lib.hid
      ⟨⟨(Below.heap_alloc _ _ _ (Array.getElem?_eq_some_iff.1 B0.out).1).trans B0.out, (Below.heap_alloc _ _ _ (Array.getElem?_eq_some_iff.1 B1.out).1).trans B1.out, hBb ▸ C.heap_new w1 _⟩, (Below.heap_alloc _ _ _ (Array.getElem?_eq_some_iff.1 B2.out).1).trans B2.out, hbn, by have := (Array.getElem?_eq_some_iff.1 B2.out).1; omega⟩
    have hn1000 : n ≤ 1000 := by omega
    have hnI : (ars.length : Int) = (n : Int) := by rw [hn]
    have u0 : IntKind.i64.wrap (1 - (n : Int)) = 1 - (n : Int) := by simp [IntKind.wrap, IntKind.bits, IntKind.signed]; omega
    have BO : Hid (V.Best g (V.PO n (1 - n)) none) := Lib.hid (V.best_congr g (V.po_start n) (V.best_nothing g))
    have GN := Lib.hid (fun w' hbl => GN.out w' hbl hm)
    have hm' := Lib.hid hm
    rw [hn] at hm'
    rw [hn] at GN HGL
    rw [hn]
    clear hbn hal hm MT HW W0' W1' W2' b1' hbW
    have B2 := B2
    clear a0 b0 a1 b1 a3 b3 a4 b4 a5 b5 b2
    go_wp2
    generalize w1.alloc _ = wA at *
    clear r0 s0 r1 s1 r2 s2 r3 s3 r4 s4 r5 s5 a2 hb1 B0 B1 B2
    go_loopw [8] (fun v8 wr => ∃ (k : Int) (o : Option V.Sc), v8 = .int .i64 k ∧ 1 - (n : Int) ≤ k ∧ k ≤ n + 1 ∧ Hid (V.Best g (V.PO n k) o) ∧ Hid (C.FI w w.heap.size Bb #[.int .i64 aw, .int .i64 ah, .slice aA ars.length ac, .int .i64 ar, .int .i64 aco, .bool av] #[.int .i64 bw, .int .i64 bh, .slice bA brs.length bc, .int .i64 br, .int .i64 bco, .bool bv] #[.int .i64 0, .int .i64 0, .int .i64 0, .int .i64 0, .int .i64 0, .slice none 0 0] (V.bg g o) (V.bs o) wr)) (fun v8 _ => (n + 2 - intOf v8).toNat)
    case atStart => exact ⟨1 - n, none, rfl, by omega, by omega, BO, FI0⟩
    case round =>
      clear BO FI0
      obtain ⟨k, o, rfl, hk1, hk2, hbo, hfi⟩ := hrel
      by_cases hkn : k < n
      · have uk : IntKind.i64.wrap (k + 1) = k + 1 := by simp [IntKind.wrap, IntKind.bits, IntKind.signed]; omega
        have hbm := Lib.hid (V.best_congr g (V.pm_start n k) hbo.out)
        clear hbo
        go_wp2
        go_loopw [28] (fun v28 wr => ∃ (t : Nat) (o : Option V.Sc), v28 = .int .i64 t ∧ t ≤ n ∧ Hid (V.Best g (V.PM n k t) o) ∧ Hid (C.FI w w.heap.size Bb #[.int .i64 aw, .int .i64 ah, .slice aA ars.length ac, .int .i64 ar, .int .i64 aco, .bool av] #[.int .i64 bw, .int .i64 bh, .slice bA brs.length bc, .int .i64 br, .int .i64 bco, .bool bv] #[.int .i64 0, .int .i64 0, .int .i64 0, .int .i64 0, .int .i64 0, .slice none 0 0] (V.bg g o) (V.bs o) wr)) (fun v28 _ => n - (intOf v28).toNat)
        case atStart => exact ⟨0, o, rfl, Nat.zero_le _, hbm, hfi⟩
        case round =>
          clear hbm hfi
          obtain ⟨t, o, rfl, htn, hbm, hfi⟩ := hrel
          by_cases ht : t < n
          · obtain ⟨m, hmm⟩ : ∃ m : Int, V.mag k = m := ⟨_, rfl⟩
            have hm1 : m = k ∧ -k ≤ k ∨ m = -k ∧ ¬ -k ≤ k := by unfold V.mag at hmm; split at hmm <;> omega
            have hbi := Lib.hid (V.best_congr g (V.pi_start n k t m hmm.symm) hbm.out)
            have ut : IntKind.i64.wrap (-k) = -k := by simp [IntKind.wrap, IntKind.bits, IntKind.signed]; omega
            have u1 : IntKind.i64.wrap ((t : Int) + m) = (t : Int) + m := by simp [IntKind.wrap, IntKind.bits, IntKind.signed]; omega
            have u2 : IntKind.i64.wrap ((t : Int) + m + 1) = (t : Int) + m + 1 := by simp [IntKind.wrap, IntKind.bits, IntKind.signed]; omega
            have hmn : 0 ≤ m ∧ m ≤ n + 1 := by omega
            have hmk : -m ≤ k ∧ k ≤ m := by omega
            clear hbm
            rcases hm1 with ⟨hm1, s1⟩ | ⟨hm1, s1⟩
            all_goals
              have v1 := u1
              have v2 := u2
              rw [hm1] at v1 v2
              have hm1 := Lib.hid hm1
              go_wp2
              go_loopw [10] (fun v10 wr => ∃ (e : Int) (o : Option V.Sc), v10 = .int .i64 e ∧ (t : Int) + m + 1 ≤ e ∧ e ≤ 2 * n + 3 ∧ Hid (V.Best g (V.PI n k t e) o) ∧ Hid (C.FI w w.heap.size Bb #[.int .i64 aw, .int .i64 ah, .slice aA ars.length ac, .int .i64 ar, .int .i64 aco, .bool av] #[.int .i64 bw, .int .i64 bh, .slice bA brs.length bc, .int .i64 br, .int .i64 bco, .bool bv] #[.int .i64 0, .int .i64 0, .int .i64 0, .int .i64 0, .int .i64 0, .slice none 0 0] (V.bg g o) (V.bs o) wr)) (fun v10 _ => (2 * n + 4 - intOf v10).toNat)
              case atStart => exact ⟨(t : Int) + m + 1, o, by rw [hm1.out], by omega, by omega, hbi, hfi⟩
              case round =>
                clear hbi hfi
                obtain ⟨e, o, rfl, he1, he2, hbi, hfi⟩ := hrel
                by_cases hk0 : k = 0
                · have hk0' : (k != 0) = false := by simp [hk0]
                  have hend := Lib.hid (V.best_congr g (V.pi_zero n t e) (hk0 ▸ hbi.out))
                  rw [← hk0] at hend
                  have hk0 := Lib.hid hk0
                  clear hbi
                  go_wp2
                  go_round
                  case rel => exact ⟨t + 1, o, by go_num, ht, hend, hfi⟩
                  case measure => simp [intOf] <;> omega
                · have hk0' : (k != 0) = true := bne_iff_ne.2 hk0
                  by_cases hen : e ≤ n
                  · have hp : V.poss n t e k := by refine ⟨?_, ?_, ?_, ?_, ?_, ?_⟩ <;> omega
                    have hall : V.All n ⟨t, e, k⟩ := hp
                    have ue : IntKind.i64.wrap (e + 1) = e + 1 := by simp [IntKind.wrap, IntKind.bits, IntKind.signed]; omega
                    have bnd := V.best_bound hbi.out (fun c h => h.1)
                    have hstep := Lib.hid (V.pi_step n k t e hall)
                    have FBr := hfi.out.fb
                    have BLr := Lib.hid hfi.out.bel
                    have LO := hfi.out.lo
                    have pa0 := C.blk_cell FBr.a 0
                    have pb0 := C.blk_cell FBr.b 0
                    have pa1 := C.blk_cell FBr.a 1
                    have pb1 := C.blk_cell FBr.b 1
                    have pa2 := C.blk_cell FBr.a 2
                    have pb2 := C.blk_cell FBr.b 2
                    have pa3 := C.blk_cell FBr.a 3
                    have pb3 := C.blk_cell FBr.b 3
                    have pa4 := C.blk_cell FBr.a 4
                    have pb4 := C.blk_cell FBr.b 4
                    have pa5 := C.blk_cell FBr.a 5
                    have pb5 := C.blk_cell FBr.b 5
                    simp only [List.getElem?_toArray, List.getElem?_cons_zero, List.getElem?_cons_succ] at pa0 pb0 pa1 pb1 pa2 pb2 pa3 pb3 pa4 pb4 pa5 pb5
                    clear FBr
                    go_wp2_with fail
                    refine (GN.out wr BLr.out t e k hp).mono ?_
                    rintro e' w2 ⟨rfl, b2⟩
                    clear pa0 pa1 pa2 pa3 pa4 pa5 pb0 pb1 pb2 pb3 pb4 pb5
                    obtain ⟨G, hG⟩ : ∃ G, g ⟨t, e, k⟩ = G := ⟨_, rfl⟩
                    rw [hG]
                    obtain ⟨w3, hw3⟩ : ∃ w3, w2.alloc (.cells #[.int .i64 G, .int .i64 t, .int .i64 e, .int .i64 k] 47) = w3 := ⟨_, rfl⟩
                    obtain ⟨Cb, hCb⟩ : ∃ Cb, w2.heap.size = Cb := ⟨_, rfl⟩
                    have CC : w3.heap[Cb]? = some (.cells #[.int .i64 G, .int .i64 t, .int .i64 e, .int .i64 k] 47 (0, 0)) := by rw [← hw3, ← hCb]; exact C.heap_new _ _
                    have b3 : Below wr.heap.size wr w3 := by rw [← hw3]; exact b2.alloc b2.size _
                    have hfi3 := Lib.hid (hfi.out.below b3)
                    have FB3 := hfi3.out.fb
                    have hCB := C.FB.lt hfi.out.fb
                    have hcb : Bb < Cb ∧ Cb < w3.heap.size := ⟨by have := b2.size; omega, (Array.getElem?_eq_some_iff.1 CC).1⟩
                    have pc0 := C.blk_cell CC 0
                    have pc1 := C.blk_cell CC 1
                    have pc2 := C.blk_cell CC 2
                    have pc3 := C.blk_cell CC 3
                    have pa0 := C.blk_cell FB3.a 0
                    have pb0 := C.blk_cell FB3.b 0
                    have pa1 := C.blk_cell FB3.a 1
                    have pb1 := C.blk_cell FB3.b 1
                    have pa2 := C.blk_cell FB3.a 2
                    have pb2 := C.blk_cell FB3.b 2
                    have pa3 := C.blk_cell FB3.a 3
                    have pb3 := C.blk_cell FB3.b 3
                    have pa4 := C.blk_cell FB3.a 4
                    have pb4 := C.blk_cell FB3.b 4
                    have pa5 := C.blk_cell FB3.a 5
                    have pb5 := C.blk_cell FB3.b 5
                    have pm0 := C.blk_cell FB3.best 0
                    have pf0 := C.blk_frozen FB3.best 0
                    have pm1 := C.blk_cell FB3.best 1
                    have pf1 := C.blk_frozen FB3.best 1
                    have pm2 := C.blk_cell FB3.best 2
                    have pf2 := C.blk_frozen FB3.best 2
                    have pm3 := C.blk_cell FB3.best 3
                    have pf3 := C.blk_frozen FB3.best 3
                    simp only [List.getElem?_toArray, List.getElem?_cons_zero, List.getElem?_cons_succ] at pa0 pb0 pa1 pb1 pa2 pb2 pa3 pb3 pa4 pb4 pa5 pb5 pm0 pm1 pm2 pm3
                    simp only [List.getElem?_toArray, List.getElem?_cons_zero, List.getElem?_cons_succ] at pc0 pc1 pc2 pc3
                    have CCH := Lib.hid CC
                    clear FB3 CC hfi b3 pa0 pa1 pa2 pa3 pa4 pa5 pb0 pb1 pb2 pb3 pb4 pb5
                    by_cases hG2 : 2 ≤ G
                    · cases o with
                      | none =>
                        have hend := Lib.hid (V.best_take g hbi.out (by omega : 2 ≤ g ⟨t, e, k⟩) (fun m hm => by cases hm) hstep.out)
                        clear hbi hstep
                        dsimp only [V.bg, V.bs] at *
                        go_wp2
                        go_round
                        case rel => exact ⟨e + 1, some ⟨t, e, k⟩, rfl, by omega, by omega, hend, Lib.hid (by have := hfi3.out.put G t e k; simpa only [V.bg, V.bs, hG] using this)⟩
                        case measure => simp [intOf] <;> omega
                      | some m' =>
                        obtain ⟨mt, me, mk⟩ := m'
                        have hM2 := hbi.out.2.1
                        dsimp only [V.bg, V.bs] at *
                        obtain ⟨M, hM⟩ : ∃ M, g ⟨mt, me, mk⟩ = M := ⟨_, rfl⟩
                        rw [hM] at hM2 pm0 hfi3
                        have hM0 : (M == 0) = false := beq_eq_false_iff_ne.2 (by omega)
                        have hM1 : ¬ M = 0 := by omega
                        have BT := Lib.hid (better_any G M t e k mt me mk w3 (by omega) (by omega) (by omega) (by omega))
                        have hbb := C.btr_bt g ⟨t, e, k⟩ ⟨mt, me, mk⟩
                        rw [hG, hM] at hbb
                        by_cases hbt : V.bt g ⟨t, e, k⟩ ⟨mt, me, mk⟩
                        · rw [hbb, decide_eq_true hbt] at BT
                          have hend := Lib.hid (V.best_take g hbi.out (by omega : 2 ≤ g ⟨t, e, k⟩) (fun m hm => by injection hm with hm; subst hm; exact hbt) hstep.out)
                          clear hbi hstep hbt hbb
                          go_wp2_with fail
                          refine BT.out.mono ?_
                          rintro e' w4 ⟨rfl, b4⟩
                          have hfi4 := Lib.hid (hfi3.out.below b4)
                          have CC4 := (b4.block Cb hcb.2).trans CCH.out
                          have FB4 := hfi4.out.fb
                          clear pc0 pc1 pc2 pc3 pm0 pm1 pm2 pm3 pf0 pf1 pf2 pf3
                          have pc0 := C.blk_cell CC4 0
                          have pm0 := C.blk_cell FB4.best 0
                          have pf0 := C.blk_frozen FB4.best 0
                          have pc1 := C.blk_cell CC4 1
                          have pm1 := C.blk_cell FB4.best 1
                          have pf1 := C.blk_frozen FB4.best 1
                          have pc2 := C.blk_cell CC4 2
                          have pm2 := C.blk_cell FB4.best 2
                          have pf2 := C.blk_frozen FB4.best 2
                          have pc3 := C.blk_cell CC4 3
                          have pm3 := C.blk_cell FB4.best 3
                          have pf3 := C.blk_frozen FB4.best 3
                          simp only [List.getElem?_toArray, List.getElem?_cons_zero, List.getElem?_cons_succ] at pc0 pc1 pc2 pc3 pm0 pm1 pm2 pm3
                          clear FB4 CC4
                          go_wp2
                          go_round
                          case rel => exact ⟨e + 1, some ⟨t, e, k⟩, rfl, by omega, by omega, hend, Lib.hid (by have := hfi4.out.put G t e k; simpa only [V.bg, V.bs, hG] using this)⟩
                          case measure => simp [intOf] <;> omega
                        · rw [hbb, decide_eq_false hbt] at BT
                          have hend := Lib.hid (V.best_leave g hbi.out (.inr ⟨_, rfl, V.bt_total g _ _ hbt⟩) hstep.out)
                          clear hbi hstep hbt hbb
                          go_wp2_with fail
                          refine BT.out.mono ?_
                          rintro e' w4 ⟨rfl, b4⟩
                          have hfi4 := Lib.hid (hfi3.out.below b4)
                          go_wp2
                          go_round
                          case rel => exact ⟨e + 1, some ⟨mt, me, mk⟩, rfl, by omega, by omega, hend, Lib.hid (by simpa only [V.bg, V.bs, hM] using hfi4.out)⟩
                          case measure => simp [intOf] <;> omega
                    · have hend := Lib.hid (V.best_leave g hbi.out (.inl (by omega)) hstep.out)
                      clear hbi hstep
                      go_wp2
                      go_round
                      case rel => exact ⟨e + 1, o, rfl, by omega, by omega, hend, hfi3⟩
                      case measure => simp [intOf] <;> omega
                  · have hend := Lib.hid (V.best_congr g (V.pi_end n k t e (by omega)) hbi.out)
                    clear hbi
                    go_wp2
                    go_round
                    case rel => exact ⟨t + 1, o, by go_num, ht, hend, hfi⟩
                    case measure => simp [intOf] <;> omega
          · obtain rfl : n = t := by omega
            have hend := Lib.hid (V.best_congr g (V.pm_end n k) hbm.out)
            clear hbm
            go_wp2
            go_round
            case rel => exact ⟨k + 1, o, rfl, by omega, by omega, hend, hfi⟩
            case measure => simp [intOf] <;> omega
      · have hend := Lib.hid (V.best_congr g (V.po_end' n k (by omega)) hbo.out)
        clear hbo
        have FIr := hfi.out
        cases o with
        | none =>
          dsimp only [V.bg, V.bs] at *
          have h6 := C.set6 FIr.res (.int .i64 0) (.int .i64 0) (.int .i64 0) (.int .i64 0) (.int .i64 0) (.slice none 0 0)
          have hb6 := C.bel6 (R := w.heap.size + 1 + 1) FIr.bel (by omega) (.int .i64 0) (.int .i64 0) (.int .i64 0) (.int .i64 0) (.int .i64 0) (.slice none 0 0)
          have z0 := C.blk_cell h6 0
          have r0 := C.blk_cell FIr.res 0
          have s0 := C.blk_frozen FIr.res 0
          have z1 := C.blk_cell h6 1
          have r1 := C.blk_cell FIr.res 1
          have s1 := C.blk_frozen FIr.res 1
          have z2 := C.blk_cell h6 2
          have r2 := C.blk_cell FIr.res 2
          have s2 := C.blk_frozen FIr.res 2
          have z3 := C.blk_cell h6 3
          have r3 := C.blk_cell FIr.res 3
          have s3 := C.blk_frozen FIr.res 3
          have z4 := C.blk_cell h6 4
          have r4 := C.blk_cell FIr.res 4
          have s4 := C.blk_frozen FIr.res 4
          have z5 := C.blk_cell h6 5
          have r5 := C.blk_cell FIr.res 5
          have s5 := C.blk_frozen FIr.res 5
          have m0 := C.blk_cell FIr.fb.best 0
          have m1 := C.blk_cell FIr.fb.best 1
          have m2 := C.blk_cell FIr.fb.best 2
          have m3 := C.blk_cell FIr.fb.best 3
          simp only [List.getElem?_toArray, List.getElem?_cons_zero, List.getElem?_cons_succ] at z0 z1 z2 z3 z4 z5 r0 r1 r2 r3 r4 r5 m0 m1 m2 m3
          have H6 := Lib.hid h6
          have HB6 := Lib.hid hb6
          clear h6 hb6 FIr hfi
          go_wp2_with fail
          refine bodyPost_ret (v := .tuple #[C.chv none, .bool false]) (by simp [results, Try.results13, go_sem, C.chv, *]) rfl ?_
          exact ⟨⟨none, rfl, fun h => absurd (hm'.out.symm.trans h) (by decide), fun _ => hend.out⟩, HB6.out⟩
        | some m' =>
          obtain ⟨mt, me, mk⟩ := m'
          have hM2 := hend.out.2.1
          dsimp only [V.bg, V.bs] at *
          obtain ⟨M, hM⟩ : ∃ M, g ⟨mt, me, mk⟩ = M := ⟨_, rfl⟩
          rw [hM] at hM2 FIr
          have hMd : decide (M < 2) = false := decide_eq_false (by omega)
          clear hM2
          have h6 := C.set6 FIr.res (.int .i64 2) (.int .i64 mt) (.int .i64 0) (.int .i64 mk) (.int .i64 me) (.slice none 0 0)
          have hb6 := C.bel6 (R := w.heap.size + 1 + 1) FIr.bel (by omega) (.int .i64 2) (.int .i64 mt) (.int .i64 0) (.int .i64 mk) (.int .i64 me) (.slice none 0 0)
          have z0 := C.blk_cell h6 0
          have r0 := C.blk_cell FIr.res 0
          have s0 := C.blk_frozen FIr.res 0
          have z1 := C.blk_cell h6 1
          have r1 := C.blk_cell FIr.res 1
          have s1 := C.blk_frozen FIr.res 1
          have z2 := C.blk_cell h6 2
          have r2 := C.blk_cell FIr.res 2
          have s2 := C.blk_frozen FIr.res 2
          have z3 := C.blk_cell h6 3
          have r3 := C.blk_cell FIr.res 3
          have s3 := C.blk_frozen FIr.res 3
          have z4 := C.blk_cell h6 4
          have r4 := C.blk_cell FIr.res 4
          have s4 := C.blk_frozen FIr.res 4
          have z5 := C.blk_cell h6 5
          have r5 := C.blk_cell FIr.res 5
          have s5 := C.blk_frozen FIr.res 5
          have m0 := C.blk_cell FIr.fb.best 0
          have m1 := C.blk_cell FIr.fb.best 1
          have m2 := C.blk_cell FIr.fb.best 2
          have m3 := C.blk_cell FIr.fb.best 3
          simp only [List.getElem?_toArray, List.getElem?_cons_zero, List.getElem?_cons_succ] at z0 z1 z2 z3 z4 z5 r0 r1 r2 r3 r4 r5 m0 m1 m2 m3
          have H6 := Lib.hid h6
          have HB6 := Lib.hid hb6
          clear h6 hb6 FIr hfi
          go_wp2_with fail
          refine bodyPost_ret (v := .tuple #[C.chv (some ⟨mt, me, mk⟩), .bool true]) (by simp [results, Try.results13, go_sem, C.chv, *]) rfl ?_
          exact ⟨⟨some ⟨mt, me, mk⟩, rfl, fun h => absurd (hm'.out.symm.trans h) (by decide), fun _ => hend.out⟩, HB6.out⟩
end Go.Proofs.Ythohninbelhddaa
