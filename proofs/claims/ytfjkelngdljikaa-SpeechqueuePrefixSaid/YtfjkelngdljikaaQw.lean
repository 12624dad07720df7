/-
  The walks of layer 44: a queue of the call's own. By an AI agent.
-/
import Derived.Test.YtfjkelngdljikaaCps
namespace Go.Proofs.Ytfjkelngdljikaa
set_option linter.unusedVariables false
set_option linter.unusedSimpArgs false
open Go.RowKit Go.Joins

theorem block_setCells {g : Nat} {t : TypeId} : ∀ (vs : List Value) (o : Nat) (w : World) (C : Array Value), w.heap[g]? = some (.cells C t (0, 0)) →
    (w.setCells g o vs).heap[g]? = some (.cells (putAt C.toList o vs).toArray t (0, 0)) ∧ w.grownBy (w.setCells g o vs) (some g)
  | [], o, w, C, h => ⟨by show w.heap[g]? = _; simpa [putAt] using h, World.grownBy.refl w _⟩
  | v :: vs, o, w, C, h => by
    have h1 := block_setCell (i := o) h v
    obtain ⟨h3, h4⟩ := block_setCells vs (o + 1) _ _ h1
    refine ⟨?_, only_trans (only_setCell (World.grownBy.refl w (some g)) (.inl rfl) v) h4⟩
    show ((w.setCell ⟨g, o, none⟩ v).setCells g (o + 1) vs).heap[g]? = _
    rw [putAt]
    simpa using h3
theorem there_block {g : Nat} {t : TypeId} {w : World} {C : Array Value} (h : w.heap[g]? = some (.cells C t (0, 0))) (o m : Nat) (hm : o + m ≤ C.size) : w.there g o m := fun j hj => ⟨by
  rw [cell_of_block_ h, Array.getElem?_eq_getElem (by omega)]; rfl, unfrozen_of_block h _⟩
/-- A store into a block that is known whole. -/
theorem wpList_store_blk {P : Program} {ops : Array Oper} {rest : List Oper} {op : Oper} {a : Act} {w : World} {Q : Exit → Act → World → Prop} (hgd : op.guard = none) (ty : TypeId) (x y : Operand) (ho : op.op = .store ty x y)
    (b o : Nat) (cells C : Array Value) (t : TypeId) (hx : a.eval x = .pointer (some ⟨b, o, none⟩)) (hy : a.eval y = .agg cells)
    (hb : w.heap[b]? = some (.cells C t (0, 0))) (hn : o + cells.size ≤ C.size) (hi : (P.info? ty).map (·.size) = some cells.size) (h1 : cells.all (·.oneCell') = true)
    (h : ∀ W9 : World, W9.heap[b]? = some (.cells (putAt C.toList o cells.toList).toArray t (0, 0)) → w.grownBy W9 (some b) → wpList P ops Q rest (a.put op.dst undef) W9) : wpList P ops Q (op :: rest) a w :=
  let k := block_setCells cells.toList o w C hb
  wpList_store_mid hgd ty x y ho b o cells hx hy (there_block hb o _ hn) hi h1 (h _ k.1 k.2)
/-- Rows stay where a block of another type is written. -/
theorem own_far {W W' : World} {b s n g : Nat} {e t : TypeId} {v : Value} {xs : List Value} {C : Array Value} (h : W.ownsRow b e s v n xs) (hc : W.heap[g]? = some (.cells C t (0, 0))) (ne : t ≠ e) (hg : W.grownBy W' (some g)) : W'.ownsRow b e s v n xs := by
  refine h.kept hg ?_
  cases hv : v.ownBlock with
  | none => exact .inl rfl
  | some g' =>
    refine .inr (fun hh => ?_)
    injection hh with hh
    subst hh
    obtain ⟨cur, h1⟩ := own_type h hv
    rw [h1] at hc
    simp only [Option.some.injEq, Obj.cells.injEq] at hc
    exact ne hc.2.1.symm
namespace Q
variable {W W' : World} {base base' g : Nat} {C : Array Value}
theorem UOwn.far {m : Um} (h : UOwn W base m) (hc : W.heap[g]? = some (.cells C 28 (0, 0))) (hg : W.grownBy W' (some g)) : UOwn W' base m :=
  ⟨own_far h.ow hc (by decide) hg, let ⟨ys, ey, oy, gy⟩ := h.oc; ⟨ys, ey, own_far oy hc (by decide) hg, fun y hy => own_far (gy y hy) hc (by decide) hg⟩⟩
theorem UsOwn.far {A : Option Addr} {c : Nat} {l : List Um} (h : UsOwn W base A c l) (hc : W.heap[g]? = some (.cells C 28 (0, 0))) (hg : W.grownBy W' (some g)) : UsOwn W' base A c l :=
  ⟨own_far h.row hc (by decide) hg, fun m hm => (h.el m hm).far hc hg⟩
/-- A queue whose rows the call made. -/
structure QOwn (W : World) (base : Nat) (q : Qm) : Prop where
  cur : UOwn W base q.cur
  items : UsOwn W base q.ai q.ci q.items
theorem QOwn.qin {q : Qm} (h : QOwn W base q) : QIn W W.heap.size q := ⟨h.cur.uin, h.items.usin.1, h.items.usin.2⟩
theorem QOwn.under {q : Qm} (h : QOwn W base q) (hb : Below W.heap.size W W') : QOwn W' base q := ⟨h.cur.under hb, h.items.under hb⟩
theorem QOwn.lower {q : Qm} (h : QOwn W base q) (hb : base' ≤ base) : QOwn W base' q := ⟨h.cur.lower hb, h.items.lower hb⟩
theorem QOwn.far {q : Qm} (h : QOwn W base q) (hc : W.heap[g]? = some (.cells C 28 (0, 0))) (hg : W.grownBy W' (some g)) : QOwn W' base q := ⟨h.cur.far hc hg, h.items.far hc hg⟩
/-- Sizes that can be copied. -/
def Qa.Cp (a : Qa) : Prop := a.items.length ≤ 1000 ∧ a.cur.Cp ∧ ∀ u ∈ a.items, u.Cp
/-- A queue that the call made. -/
def QMade (a : Qa) (w w' : World) (e : Ending) : Prop := ∃ q : Qm, e = .returned (.agg q.cells.toArray) ∧ q.a = a ∧ QOwn w' w.heap.size q ∧ Below w.heap.size w w'
/-- A queue that the call can read. -/
def QGave (B : Nat) (a : Qa) (w w' : World) (e : Ending) : Prop := ∃ q : Qm, e = .returned (.agg q.cells.toArray) ∧ q.a = a ∧ QIn w' B q ∧ Below w.heap.size w w'
end Q
theorem infoQ : (Try.prog.info? 28).map (·.size) = some (11 : Nat) := by kernel_rfl
theorem infoU5 : (Try.prog.info? 25).map (·.size) = some (5 : Nat) := by kernel_rfl
set_option maxRecDepth 100000 in
set_option maxHeartbeats 1000000 in
theorem own_any (q : Q.Qm) (B : Nat) (w : World) (h : Q.QIn w B q) (hB : B ≤ w.heap.size) (hok : q.a.Cp) :
    Calls Try.prog 35 #[.agg q.cells.toArray] w fun e w' => Q.QMade q.a w w' e := by
  obtain ⟨ck, rt, sp, ⟨⟨p0, p1, p2, p3, p4⟩, a0, c0, a1, c1⟩, be, en, items, ai, ci⟩ := q
  obtain ⟨hcur, hits, _⟩ := h
  obtain ⟨ok1, ok2, ok3⟩ := hok
  simp only [Q.Qm.a, List.length_map] at ok1 ok2 ok3 ⊢
  simp only at hcur hits
  simp only [Q.Qm.cells]
  have ok4 : ∀ m ∈ items, m.u.Cp := fun m hm => ok3 _ (List.mem_map.2 ⟨m, hm, rfl⟩)
  obtain ⟨X, hX⟩ : ∃ X : Array Value, #[.int .i64 ck, .int .i64 rt, .bool sp, .slice a0 p0.length c0, .slice a1 p1.length c1, .int .i64 p2, .int .i64 p3, .int .i64 p4, .int .i64 be, .int .i64 en, .slice ai items.length ci] = X := ⟨_, rfl⟩
  have b0 := (below_box w (.cells #[.int .i64 ck, .int .i64 rt, .bool sp, .slice a0 p0.length c0, .slice a1 p1.length c1, .int .i64 p2, .int .i64 p3, .int .i64 p4, .int .i64 be, .int .i64 en, .slice ai items.length ci] 28)).alloc (by simp) (.cells (Q.new 0 0) 28)
  have V0 := heap_old2 (w.alloc (.cells #[.int .i64 ck, .int .i64 rt, .bool sp, .slice a0 p0.length c0, .slice a1 p1.length c1, .int .i64 p2, .int .i64 p3, .int .i64 p4, .int .i64 be, .int .i64 en, .slice ai items.length ci] 28)) (.cells (Q.new 0 0) 28) (heap_alloc_new w _)
  have V1 := heap_alloc_new (w.alloc (.cells #[.int .i64 ck, .int .i64 rt, .bool sp, .slice a0 p0.length c0, .slice a1 p1.length c1, .int .i64 p2, .int .i64 p3, .int .i64 p4, .int .i64 be, .int .i64 en, .slice ai items.length ci] 28)) (.cells (Q.new 0 0) 28)
  rw [World.size_alloc] at V1
  have s0 : ((w.alloc (.cells #[.int .i64 ck, .int .i64 rt, .bool sp, .slice a0 p0.length c0, .slice a1 p1.length c1, .int .i64 p2, .int .i64 p3, .int .i64 p4, .int .i64 be, .int .i64 en, .slice ai items.length ci] 28)).alloc (.cells (Q.new 0 0) 28)).heap.size = w.heap.size + 2 := by simp
  have CL := copied_own ⟨⟨p0, p1, p2, p3, p4⟩, a0, c0, a1, c1⟩ B _ (hcur.below b0 hB) (Nat.le_trans hB b0.size) ok2
  simp only [Q.Um.cells] at CL
  have CS := fun (W : World) (hw : Below w.heap.size w W) => copies_any ai ci B items W (hits.below hw hB) (Nat.le_trans hB hw.size) ok1 ok4
  replace CS := Lib.hid CS
  replace CL := Lib.hid CL
  have B0 := Lib.hid b0
  have HV0 := Lib.hid V0
  have HV1 := Lib.hid V1
  have S0 := Lib.hid s0
  have HIQ := Lib.hid infoQ
  have HIU := Lib.hid infoU5
  clear hcur hits ok2 ok3 ok4 b0 V0 V1 s0 hX X
  go_enter Try.func35, Try.ntmps35
  go_wp2_with fail
  refine CL.out.mono ?_
  rintro e w1 ⟨⟨⟨u0, u1, u2, u3, u4⟩, a0', c0', a1', c1'⟩, rfl, eu, own1, b1⟩
  simp only [Q.Ut.mk.injEq] at eu
  obtain ⟨rfl, rfl, rfl, rfl, rfl⟩ := eu
  have BE1 := Lib.hid (B0.out.trans (b1.mono B0.out.size))
  have hsz := S0.out
  have hs1 : w.heap.size + 2 ≤ w1.heap.size := by have := b1.size; omega
  have own1' := Lib.hid (own1.lower (base' := w.heap.size) (by omega))
  have VB1 := Lib.hid ((b1.block w.heap.size (by omega)).trans HV0.out)
  have VR1 := Lib.hid ((b1.block (w.heap.size + 1) (by omega)).trans HV1.out)
  obtain ⟨N, hN⟩ : ∃ N, w.heap.size = N := ⟨_, rfl⟩
  rw [hN] at BE1 hs1 own1' VB1 VR1 hB CS ⊢
  clear CL B0 HV0 HV1 S0 own1 b1 hsz
  simp only [Q.Um.cells]
  go_wp2_with (refine wpList_store_blk rfl 25 (.tmp 6) (.tmp 5) rfl N 3 #[.slice a0' u0.length c0', .slice a1' u1.length c1', .int .i64 u2, .int .i64 u3, .int .i64 u4] _ 28 ?hx ?hy VB1.out (by simp) HIU.out (by simp [Value.oneCell']) ?_; (case hx => rfl); (case hy => rfl); intro w2 hv2 hg2; (simp [putAt] at hv2); (have k10 := cell_of_block_ (i := 10) hv2); (simp at k10))
  have BE2 := Lib.hid (BE1.out.trans (below_of_only hg2 (Nat.le_refl N) (by omega)))
  have own2 := Lib.hid (own1'.out.far VB1.out hg2)
  have VR2 := Lib.hid ((hg2.block (N + 1) (by omega) (by simp)).trans VR1.out)
  have hs2 : N + 2 ≤ w2.heap.size := Nat.le_trans hs1 hg2.size
  have CS2 := Lib.hid (CS.out w2 BE2.out)
  clear CS own1' VB1 VR1 BE1 hg2 hs1 k10
  refine CS2.out.mono ?_
  rintro e w3 ⟨ai', ci', ms, rfl, em, own3, b3⟩
  have hil : ms.length = items.length := by have := congrArg List.length em; simpa using this
  have own3' := Lib.hid (own3.lower (base' := N) (by omega))
  have own2' := Lib.hid (own2.out.under b3)
  have V3 := (b3.block N (by omega)).trans hv2
  have VR3 := (b3.block (N + 1) (by omega)).trans VR2.out
  have BE3 := Lib.hid (BE2.out.trans (b3.mono (by omega)))
  have hs3 : N + 2 ≤ w3.heap.size := Nat.le_trans hs2 b3.size
  have V4 := block_setCell (i := 10) V3 (.slice ai' ms.length ci')
  have hg4 : w3.grownBy (w3.setCell ⟨N, 10, none⟩ (.slice ai' ms.length ci')) (some N) := only_setCell (World.grownBy.refl w3 (some N)) (.inl rfl) _
  have own4 := own3'.out.far V3 hg4
  have own4' := own2'.out.far V3 hg4
  have VR4 := (hg4.block (N + 1) (by omega) (by simp)).trans VR3
  have BE4 := BE3.out.trans (below_of_only hg4 (Nat.le_refl N) (by omega))
  have hs4 : N + 2 ≤ (w3.setCell ⟨N, 10, none⟩ (.slice ai' ms.length ci')).heap.size := Nat.le_trans hs3 hg4.size
  simp at V4
  have y10 := cell_of_block_ (i := 10) V3
  have f10 := unfrozen_of_block V3 10
  simp at y10
  obtain ⟨w4, hw4⟩ : ∃ w4, w3.setCell ⟨N, 10, none⟩ (.slice ai' ms.length ci') = w4 := ⟨_, rfl⟩
  rw [hw4] at V4 own4 own4' VR4 BE4 hs4
  have k0 := cell_of_block_ (i := 0) V4
  have k1 := cell_of_block_ (i := 1) V4
  have k2 := cell_of_block_ (i := 2) V4
  have k3 := cell_of_block_ (i := 3) V4
  have k4 := cell_of_block_ (i := 4) V4
  have k5 := cell_of_block_ (i := 5) V4
  have k6 := cell_of_block_ (i := 6) V4
  have k7 := cell_of_block_ (i := 7) V4
  have k8 := cell_of_block_ (i := 8) V4
  have k9 := cell_of_block_ (i := 9) V4
  have k10 := cell_of_block_ (i := 10) V4
  simp at k0 k1 k2 k3 k4 k5 k6 k7 k8 k9 k10
  replace VR4 := Lib.hid VR4
  replace V4 := Lib.hid V4
  replace own4 := Lib.hid own4
  replace own4' := Lib.hid own4'
  replace BE4 := Lib.hid BE4
  have EM := Lib.hid em
  have HIL := Lib.hid hil
  have hN9 := hN
  clear CS2 own2 own3 own3' own2' b3 hv2 V3 VR3 VR2 BE2 BE3 hg4 em hil
  go_wp2_with (refine wpList_store_blk rfl 28 (.tmp 2) (.tmp 11) rfl (N + 1) 0 #[.int .i64 ck, .int .i64 rt, .bool sp, .slice a0' u0.length c0', .slice a1' u1.length c1', .int .i64 u2, .int .i64 u3, .int .i64 u4, .int .i64 be, .int .i64 en, .slice ai' ms.length ci'] _ 28 ?hx ?hy VR4.out (by simp) HIQ.out (by simp [Value.oneCell']) ?_; (case hx => rfl); (case hy => rfl); intro w5 hv5 hg5; (simp [putAt] at hv5))
  have r0 := cell_of_block_ (i := 0) hv5
  have r1 := cell_of_block_ (i := 1) hv5
  have r2 := cell_of_block_ (i := 2) hv5
  have r3 := cell_of_block_ (i := 3) hv5
  have r4 := cell_of_block_ (i := 4) hv5
  have r5 := cell_of_block_ (i := 5) hv5
  have r6 := cell_of_block_ (i := 6) hv5
  have r7 := cell_of_block_ (i := 7) hv5
  have r8 := cell_of_block_ (i := 8) hv5
  have r9 := cell_of_block_ (i := 9) hv5
  have r10 := cell_of_block_ (i := 10) hv5
  simp at r0 r1 r2 r3 r4 r5 r6 r7 r8 r9 r10
  have BE5 := BE4.out.trans (below_of_only hg5 (Nat.le_succ N) (by omega))
  have ownc := own4'.out.far VR4.out hg5
  have owni := own4.out.far VR4.out hg5
  refine bodyPost_ret (v := .agg #[.int .i64 ck, .int .i64 rt, .bool sp, .slice a0' u0.length c0', .slice a1' u1.length c1', .int .i64 u2, .int .i64 u3, .int .i64 u4, .int .i64 be, .int .i64 en, .slice ai' ms.length ci']) (by simp [results, Try.results35, go_sem, r0, r1, r2, r3, r4, r5, r6, r7, r8, r9, r10]) rfl ⟨⟨ck, rt, sp, ⟨⟨u0, u1, u2, u3, u4⟩, a0', c0', a1', c1'⟩, be, en, ms, ai', ci'⟩, rfl, ?_, ?_, ?_⟩
  · simp only [Q.Qm.a, EM.out]
  · rw [hN]; exact ⟨ownc, owni⟩
  · rw [hN]; exact BE5
theorem step_store_blk {P : Program} {ops : Array Oper} {op : Oper} {a : Act} {w : World} {K : Act → World → Prop} {Q : Exit → Act → World → Prop} {E : Prop} (hgd : op.guard = none) (ty : TypeId) (x y : Operand) (ho : op.op = .store ty x y)
    (b o : Nat) (cells C : Array Value) (t : TypeId) (hx : a.eval x = .pointer (some ⟨b, o, none⟩)) (hy : a.eval y = .agg cells)
    (hb : w.heap[b]? = some (.cells C t (0, 0))) (hn : o + cells.size ≤ C.size) (hi : (P.info? ty).map (·.size) = some cells.size) (h1 : cells.all (·.oneCell') = true)
    (h : ∀ W9 : World, W9.heap[b]? = some (.cells (putAt C.toList o cells.toList).toArray t (0, 0)) → w.grownBy W9 (some b) → K (a.put op.dst undef) W9) :
    if Region.wanted op (yielded ops a.tmps) = true then Oper.wp P op a w K Q else E := by
  have hw : Region.wanted op (yielded ops a.tmps) = true := by simp [Region.wanted, hgd]
  rw [if_pos hw]
  let k := block_setCells cells.toList o w C hb
  exact wp_store_mid ty x y ho b o cells hx hy (there_block hb o _ hn) hi h1 (h _ k.1 k.2)
namespace Q
theorem set8 {W : World} {g : Nat} {t : TypeId} {C : Array Value} (h : W.heap[g]? = some (.cells C t (0, 0))) (hC : C.size = 8) (v0 v1 v2 v3 v4 v5 v6 v7 : Value) :
    ∃ W9, ((((((((W.setCell ⟨g, 0, none⟩ v0).setCell ⟨g, 1, none⟩ v1).setCell ⟨g, 2, none⟩ v2).setCell ⟨g, 3, none⟩ v3).setCell ⟨g, 4, none⟩ v4).setCell ⟨g, 5, none⟩ v5).setCell ⟨g, 6, none⟩ v6).setCell ⟨g, 7, none⟩ v7) = W9 ∧ W9.heap[g]? = some (.cells #[v0, v1, v2, v3, v4, v5, v6, v7] t (0, 0)) ∧ W.grownBy W9 (some g) := by
  obtain ⟨h1, h2⟩ := block_setCells [v0, v1, v2, v3, v4, v5, v6, v7] 0 W C h
  refine ⟨_, rfl, ?_, h2⟩
  have e : (putAt C.toList 0 [v0, v1, v2, v3, v4, v5, v6, v7]).toArray = #[v0, v1, v2, v3, v4, v5, v6, v7] := by
    obtain ⟨l⟩ := C
    simp only [List.size_toArray] at hC
    match l, hC with
    | [x0, x1, x2, x3, x4, x5, x6, x7], _ => rfl
  rw [e] at h1
  exact h1
theorem set11 {W : World} {g : Nat} {t : TypeId} {C : Array Value} (h : W.heap[g]? = some (.cells C t (0, 0))) (hC : C.size = 11) (v0 v1 v2 v3 v4 v5 v6 v7 v8 v9 v10 : Value) :
    ∃ W9, (((((((((((W.setCell ⟨g, 0, none⟩ v0).setCell ⟨g, 1, none⟩ v1).setCell ⟨g, 2, none⟩ v2).setCell ⟨g, 3, none⟩ v3).setCell ⟨g, 4, none⟩ v4).setCell ⟨g, 5, none⟩ v5).setCell ⟨g, 6, none⟩ v6).setCell ⟨g, 7, none⟩ v7).setCell ⟨g, 8, none⟩ v8).setCell ⟨g, 9, none⟩ v9).setCell ⟨g, 10, none⟩ v10) = W9 ∧ W9.heap[g]? = some (.cells #[v0, v1, v2, v3, v4, v5, v6, v7, v8, v9, v10] t (0, 0)) ∧ W.grownBy W9 (some g) := by
  obtain ⟨h1, h2⟩ := block_setCells [v0, v1, v2, v3, v4, v5, v6, v7, v8, v9, v10] 0 W C h
  refine ⟨_, rfl, ?_, h2⟩
  have e : (putAt C.toList 0 [v0, v1, v2, v3, v4, v5, v6, v7, v8, v9, v10]).toArray = #[v0, v1, v2, v3, v4, v5, v6, v7, v8, v9, v10] := by
    obtain ⟨l⟩ := C
    simp only [List.size_toArray] at hC
    match l, hC with
    | [x0, x1, x2, x3, x4, x5, x6, x7, x8, x9, x10], _ => rfl
  rw [e] at h1
  exact h1
end Q
end Go.Proofs.Ytfjkelngdljikaa
