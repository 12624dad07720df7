/-
  The walks of layer 44: copied. By an AI agent.
-/
import Derived.Test.YtfjkelngdljikaaMk
import Derived.Test.YtfjkelngdljikaaSpk
namespace Go.Proofs.Ytfjkelngdljikaa
set_option linter.unusedVariables false
set_option linter.unusedSimpArgs false
open Go.RowKit Go.Joins

theorem R.ccs_snoc (l : List R.Cs) (x : R.Cs) : R.ccs (l ++ [x]) = R.ccs l ++ x.cells := by simp [R.ccs]
theorem R.ccs_len (l : List R.Cs) : (R.ccs l).length = l.length * 6 := by
  induction l with
  | nil => rfl
  | cons g l ih => simp only [R.ccs, List.flatMap_cons, List.length_append, R.Cs.cells_len, List.length_cons] at ih ⊢; omega
theorem own_set_other {W : World} {b s n b' : Nat} {e t : TypeId} {v : Value} {xs : List Value} {C : Array Value} (h : W.ownsRow b s n v b' xs) (hc : W.heap[e]? = some (.cells C t (0, 0))) (ne : t ≠ s) (i : Nat) (u : Value) : (W.setCell ⟨e, i, none⟩ u).ownsRow b s n v b' xs := by
  have hg : W.grownBy (W.setCell ⟨e, i, none⟩ u) (some e) := only_setCell (World.grownBy.refl W _) (.inl rfl) u
  refine h.kept hg ?_
  cases hv : v.ownBlock with
  | none => exact .inl rfl
  | some g =>
    refine .inr (fun hh => ?_)
    injection hh with hh
    subst hh
    obtain ⟨cur, h1⟩ := own_type h hv
    rw [h1] at hc
    simp only [Option.some.injEq, Obj.cells.injEq] at hc
    exact ne hc.2.1.symm
/-- What holds while the changes are copied. -/
structure Q.CInv (N M n : Nat) (w W : World) (A1 : Option Addr) (c1 : Nat) (ws : List ByteArray) (bc : Array Value) (ys : List R.Cs) (Z : List Value) : Prop where
  ow : W.ownsRow (N + 2) 9 1 (.slice A1 ws.length c1) ws.length (ws.map Value.string)
  om : W.ownsRow (N + 2) 61 6 (.slice (some ⟨M, 0, none⟩) n n) n (R.ccs ys ++ Z)
  og : ∀ y ∈ ys, W.ownsRow (N + 2) 78 3 y.sl y.c.gl.length (R.gcs y.c.gl)
  vb : W.heap[N]? = some (.cells bc 25 (0, 0))
  vr : W.heap[N + 1]? = some (.cells #[.slice none 0 0, .slice none 0 0, .int .i64 0, .int .i64 0, .int .i64 0] 25 (0, 0))
  be : Below N w W
  hs : N + 2 ≤ W.heap.size
namespace Q
variable {N M n : Nat} {w W W' : World} {A1 : Option Addr} {c1 : Nat} {ws : List ByteArray} {bc : Array Value} {ys : List R.Cs} {Z : List Value}
theorem CInv.below (h : CInv N M n w W A1 c1 ws bc ys Z) (hb : Below W.heap.size W W') : CInv N M n w W' A1 c1 ws bc ys Z where
  ow := own_under h.ow hb
  om := own_under h.om hb
  og := fun y hy => own_under (h.og y hy) hb
  vb := (hb.block N (Nat.lt_of_lt_of_le (by omega) h.hs)).trans h.vb
  vr := (hb.block (N + 1) (Nat.lt_of_lt_of_le (by omega) h.hs)).trans h.vr
  be := h.be.trans (hb.mono (by have := h.hs; omega))
  hs := Nat.le_trans h.hs hb.size
theorem CInv.box (h : CInv N M n w W A1 c1 ws bc ys Z) {bx : Nat} {C : Array Value} (hx : W.heap[bx]? = some (.cells C 61 (0, 0))) (hN : N + 2 ≤ bx) (hM : M ≠ bx) (i : Nat) (u : Value) : CInv N M n w (W.setCell ⟨bx, i, none⟩ u) A1 c1 ws bc ys Z where
  ow := own_set_other h.ow hx (by decide) i u
  om := h.om.kept (only_setCell (World.grownBy.refl W (some bx)) (.inl rfl) u) (.inr (by simp [Value.ownBlock]; exact hM))
  og := fun y hy => own_set_other (h.og y hy) hx (by decide) i u
  vb := (heap_setCell_other W ⟨bx, i, none⟩ N u (fun e => by simp only at e; omega)).trans h.vb
  vr := (heap_setCell_other W ⟨bx, i, none⟩ (N + 1) u (fun e => by simp only at e; omega)).trans h.vr
  be := h.be.setCell (p := ⟨bx, i, none⟩) (by simp only; omega) u
  hs := by simpa using h.hs
theorem CInv.put (h : CInv N M n w W A1 c1 ws bc ys Z) (hM : N + 2 ≤ M) {y : R.Cs} (hy : W.ownsRow (N + 2) 78 3 y.sl y.c.gl.length (R.gcs y.c.gl)) (hZ : 6 ≤ Z.length) : CInv N M n w (W.setCells M (ys.length * 6) y.cells) A1 c1 ws bc (ys ++ [y]) (Z.drop 6) := by
  obtain ⟨h1, h2⟩ := own_setCells y.cells (ys.length * 6) W _ h.om
  have hb : (Value.slice (some ⟨M, 0, none⟩) n n).ownBlock = some M := rfl
  have e : putAt (R.ccs ys ++ Z) (ys.length * 6) y.cells = R.ccs (ys ++ [y]) ++ Z.drop 6 := by
    have key : ∀ Z1 Z2 : List Value, Z1.length = 6 → putAt (R.ccs ys ++ (Z1 ++ Z2)) (ys.length * 6) y.cells = R.ccs (ys ++ [y]) ++ (Z1 ++ Z2).drop 6 := fun Z1 Z2 hz1 => by
      have := putAt_mid y.cells (R.ccs ys) Z1 Z2 (by rw [hz1, R.Cs.cells_len])
      rw [R.ccs_len] at this
      rw [this, R.ccs_snoc, List.append_assoc, ← hz1, List.drop_left]
    have := key (Z.take 6) (Z.drop 6) (by rw [List.length_take]; omega)
    rwa [List.take_append_drop] at this
  rw [e] at h1
  refine ⟨kept_of h.ow (hb ▸ h2) (own_apart h.ow h.om (by decide)), h1, fun z hz => ?_, ?_, ?_, ?_, Nat.le_trans h.hs h2.size⟩
  · rcases List.mem_append.1 hz with hz | hz
    · exact kept_of (h.og z hz) (hb ▸ h2) (own_apart (h.og z hz) h.om (by decide))
    · simp only [List.mem_singleton] at hz
      subst hz
      exact kept_of hy (hb ▸ h2) (own_apart hy h.om (by decide))
  · exact (h2.block N (Nat.lt_of_lt_of_le (by omega) h.hs) (fun e => by injection e with e; omega)).trans h.vb
  · exact (h2.block (N + 1) (Nat.lt_of_lt_of_le (by omega) h.hs) (fun e => by injection e with e; omega)).trans h.vr
  · exact h.be.trans (below_of_only h2 (by omega) (by have := h.hs; omega))
theorem CInv.fin (h : CInv N M n w W A1 c1 ws bc ys Z) (x v0 v1 v2 v3 v4 : Value) {W9 : World} (hW : (((((W.setCell ⟨N, 1, none⟩ x).setCell ⟨N + 1, 0, none⟩ v0).setCell ⟨N + 1, 1, none⟩ v1).setCell ⟨N + 1, 2, none⟩ v2).setCell ⟨N + 1, 3, none⟩ v3).setCell ⟨N + 1, 4, none⟩ v4 = W9) :
    W9.ownsRow (N + 2) 9 1 (.slice A1 ws.length c1) ws.length (ws.map Value.string) ∧ W9.ownsRow (N + 2) 61 6 (.slice (some ⟨M, 0, none⟩) n n) n (R.ccs ys ++ Z) ∧ (∀ y ∈ ys, W9.ownsRow (N + 2) 78 3 y.sl y.c.gl.length (R.gcs y.c.gl)) ∧ W9.heap[N + 1]? = some (.cells #[v0, v1, v2, v3, v4] 25 (0, 0)) ∧ Below N w W9 := by
  have key : ∀ {e size k : Nat} {v : Value} {l : List Value}, W.ownsRow (N + 2) e size v k l → W9.ownsRow (N + 2) e size v k l := fun h => by
    rw [← hW]
    exact ownsRow_setCell_below (ownsRow_setCell_below (ownsRow_setCell_below (ownsRow_setCell_below (ownsRow_setCell_below (ownsRow_setCell_below h (a := ⟨N, 1, none⟩) (by simp only; omega) x) (a := ⟨N + 1, 0, none⟩) (by simp only; omega) v0) (a := ⟨N + 1, 1, none⟩) (by simp only; omega) v1) (a := ⟨N + 1, 2, none⟩) (by simp only; omega) v2) (a := ⟨N + 1, 3, none⟩) (by simp only; omega) v3) (a := ⟨N + 1, 4, none⟩) (by simp only; omega) v4
  refine ⟨key h.ow, key h.om, fun y hy => key (h.og y hy), ?_, ?_⟩
  · have V := (heap_setCell_other W ⟨N, 1, none⟩ (N + 1) x (fun e => by simp only at e; omega)).trans h.vr
    have := block_setCell (i := 4) (block_setCell (i := 3) (block_setCell (i := 2) (block_setCell (i := 1) (block_setCell (i := 0) V v0) v1) v2) v3) v4
    rw [hW] at this
    simpa using this
  · rw [← hW]
    exact (((((h.be.setCell (p := ⟨N, 1, none⟩) (Nat.le_refl _) x).setCell (p := ⟨N + 1, 0, none⟩) (Nat.le_succ _) v0).setCell (p := ⟨N + 1, 1, none⟩) (Nat.le_succ _) v1).setCell (p := ⟨N + 1, 2, none⟩) (Nat.le_succ _) v2).setCell (p := ⟨N + 1, 3, none⟩) (Nat.le_succ _) v3).setCell (p := ⟨N + 1, 4, none⟩) (Nat.le_succ _) v4
end Q
/-- An utterance whose rows the call made. -/
structure Q.UOwn (W : World) (base : Nat) (m : Q.Um) : Prop where
  ow : W.ownsRow base 9 1 (.slice m.aw m.u.words.length m.cw) m.u.words.length (m.u.words.map Value.string)
  oc : ∃ ys : List R.Cs, ys.map (·.c) = m.u.chs ∧ W.ownsRow base 61 6 (.slice m.ac m.u.chs.length m.cc) m.u.chs.length (R.ccs ys) ∧ ∀ y ∈ ys, W.ownsRow base 78 3 y.sl y.c.gl.length (R.gcs y.c.gl)
namespace Q
theorem UOwn.uin {W : World} {base : Nat} {m : Um} (h : UOwn W base m) : UIn W W.heap.size m := by
  obtain ⟨A1, c1, e1, r1, h1⟩ := own_reads_cap h.ow
  injection e1 with e1 _ e2
  obtain ⟨ys, ey, oy, gy⟩ := h.oc
  obtain ⟨A2, c2, e3, r2, h2⟩ := own_reads_cap oy
  injection e3 with e3 _ e4
  subst e1 e2 e3 e4
  have hl : ys.length = m.u.chs.length := by rw [← ey, List.length_map]
  exact ⟨r1, ⟨ys, ey, ⟨by rw [hl]; exact r2, fun y hy => own_reads_cap (gy y hy)⟩⟩, h1, h2⟩
theorem UOwn.under {W W' : World} {base : Nat} {m : Um} (h : UOwn W base m) (hb : Below W.heap.size W W') : UOwn W' base m :=
  ⟨own_under h.ow hb, let ⟨ys, ey, oy, gy⟩ := h.oc; ⟨ys, ey, own_under oy hb, fun y hy => own_under (gy y hy) hb⟩⟩
theorem UOwn.lower {W : World} {base base' : Nat} {m : Um} (h : UOwn W base m) (hb : base' ≤ base) : UOwn W base' m :=
  ⟨own_lower h.ow hb, let ⟨ys, ey, oy, gy⟩ := h.oc; ⟨ys, ey, own_lower oy hb, fun y hy => own_lower (gy y hy) hb⟩⟩
theorem UOwn.cells {W W' : World} {base b' n : Nat} {v : Value} {xs : List Value} {m : Um} (h : UOwn W base m) (ho : W.ownsRow b' 25 5 v n xs) (hg : W.grownBy W' v.ownBlock) : UOwn W' base m :=
  ⟨kept_of h.ow hg (own_apart h.ow ho (by decide)), let ⟨ys, ey, oy, gy⟩ := h.oc; ⟨ys, ey, kept_of oy hg (own_apart oy ho (by decide)), fun y hy => kept_of (gy y hy) hg (own_apart (gy y hy) ho (by decide))⟩⟩
end Q
/-- A copy that the call made. -/
def Q.UMade (u : Q.Ut) (w w' : World) (e : Ending) : Prop := ∃ m : Q.Um, e = .returned (.agg m.cells.toArray) ∧ m.u = u ∧ Q.UOwn w' w.heap.size m ∧ Below w.heap.size w w'
/-- A copy that the call made. -/
def Q.UOut (u : Q.Ut) (w w' : World) (e : Ending) : Prop := ∃ m : Q.Um, e = .returned (.agg m.cells.toArray) ∧ m.u = u ∧ Q.UIn w' w'.heap.size m ∧ Below w.heap.size w w'
/-- Sizes that can be copied. -/
def Q.Ut.Cp (u : Q.Ut) : Prop := u.words.length ≤ 1000 ∧ u.chs.length ≤ 1000 ∧ ∀ c ∈ u.chs, c.gl.length ≤ 1000
set_option maxRecDepth 100000 in
set_option maxHeartbeats 1000000 in
theorem copied_own (m : Q.Um) (B : Nat) (w : World) (h : Q.UIn w B m) (hB : B ≤ w.heap.size) (hok : m.u.Cp) :
    Calls Try.prog 41 #[.agg m.cells.toArray] w fun e w' => Q.UMade m.u w w' e := by
  obtain ⟨⟨ws, cs, cl, af, up⟩, aw, cw, ac, cc⟩ := m
  obtain ⟨iw, ⟨xs, ex, ix⟩, _, _⟩ := h
  obtain ⟨ow, oc, og⟩ := hok
  simp only at iw ex ix ow oc og
  simp only [Q.Um.cells]
  have hxl : xs.length = cs.length := by rw [← ex, List.length_map]
  have XC : Hid (∀ k (h : k < xs.length), xs[k].c.gl.length ≤ 1000) := Lib.hid (fun k h => og _ (by rw [← ex]; exact List.mem_map.2 ⟨_, List.getElem_mem h, rfl⟩))
  obtain ⟨iC, hiC, hC0, hC1, hC2⟩ := info_parts infoC
  have b0 := (below_box w (.cells #[.slice aw ws.length cw, .slice ac cs.length cc, .int .i64 cl, .int .i64 af, .int .i64 up] 25)).alloc (by simp) (.cells #[.slice none 0 0, .slice none 0 0, .int .i64 0, .int .i64 0, .int .i64 0] 25)
  have V0 : ((w.alloc (.cells #[.slice aw ws.length cw, .slice ac cs.length cc, .int .i64 cl, .int .i64 af, .int .i64 up] 25)).alloc (.cells #[.slice none 0 0, .slice none 0 0, .int .i64 0, .int .i64 0, .int .i64 0] 25)).heap[w.heap.size]? = some (.cells #[.slice aw ws.length cw, .slice ac cs.length cc, .int .i64 cl, .int .i64 af, .int .i64 up] 25 (0, 0)) := heap_old2 _ _ (heap_alloc_new w _)
  have V1 := heap_alloc_new (w.alloc (.cells #[.slice aw ws.length cw, .slice ac cs.length cc, .int .i64 cl, .int .i64 af, .int .i64 up] 25)) (.cells #[.slice none 0 0, .slice none 0 0, .int .i64 0, .int .i64 0, .int .i64 0] 25)
  rw [World.size_alloc] at V1
  have s0 : ((w.alloc (.cells #[.slice aw ws.length cw, .slice ac cs.length cc, .int .i64 cl, .int .i64 af, .int .i64 up] 25)).alloc (.cells #[.slice none 0 0, .slice none 0 0, .int .i64 0, .int .i64 0, .int .i64 0] 25)).heap.size = w.heap.size + 2 := by simp
  have CL := clonestr_any aw cw B ws ((w.alloc (.cells #[.slice aw ws.length cw, .slice ac cs.length cc, .int .i64 cl, .int .i64 af, .int .i64 up] 25)).alloc (.cells #[.slice none 0 0, .slice none 0 0, .int .i64 0, .int .i64 0, .int .i64 0] 25)) (iw.below b0 hB) (Nat.le_trans hB b0.size) ow
  have IX := Lib.hid ix
  have EX := Lib.hid ex
  have HXL := Lib.hid hxl
  replace CL := Lib.hid CL
  have B0 := Lib.hid b0
  have HV0 := Lib.hid V0
  have HV1 := Lib.hid V1
  have S0 := Lib.hid s0
  clear iw ix ex og hxl b0 V0 V1 s0
  go_enter Try.func41, Try.ntmps41
  go_wp2_with fail
  refine CL.out.mono ?_
  rintro e w1 ⟨v1, rfl, own1, b1⟩
  obtain ⟨A1, c1, rfl, r1, hc1⟩ := own_reads_cap own1
  rw [S0.out] at own1
  have OW1 := Lib.hid own1
  have BE1 := Lib.hid (B0.out.trans (b1.mono B0.out.size))
  have hsz := S0.out
  have VB1 := (b1.block w.heap.size (by omega)).trans HV0.out
  have VR1 := (b1.block (w.heap.size + 1) (by omega)).trans HV1.out
  have hs1 : w.heap.size + 2 ≤ w1.heap.size := by have := b1.size; omega
  have k0 := cell_of_block_ (i := 0) VB1
  have k1 := cell_of_block_ (i := 1) VB1
  have f0 := unfrozen_of_block VB1
  simp at k0 k1
  have VBs := block_setCell (i := 0) VB1 (.slice A1 ws.length c1)
  have VRs := (heap_setCell_other w1 ⟨w.heap.size, 0, none⟩ (w.heap.size + 1) (.slice A1 ws.length c1) (fun e => by simp only at e; omega)).trans VR1
  have OWs := own_set_other OW1.out VB1 (by decide) 0 (.slice A1 ws.length c1)
  have BEs := BE1.out.setCell (p := ⟨w.heap.size, 0, none⟩) (Nat.le_refl _) (.slice A1 ws.length c1)
  have k1s := cell_of_block_ (i := 1) VBs
  simp at VBs k1s
  replace VBs := Lib.hid VBs
  replace VRs := Lib.hid VRs
  replace OWs := Lib.hid OWs
  replace BEs := Lib.hid BEs
  obtain ⟨N, hN⟩ : ∃ N, w.heap.size = N := ⟨_, rfl⟩
  have HN := Lib.hid hN
  rw [hN] at VBs VRs OWs BEs hs1 k0 k1 k1s f0 hB ⊢
  obtain ⟨M, hM⟩ : ∃ M, w1.heap.size = M := ⟨_, rfl⟩
  rw [hM] at hs1
  clear CL B0 HV0 HV1 S0 OW1 BE1 VB1 VR1 own1 r1 b1 hsz hN
  have hM2 : (w1.setCell ⟨N, 0, none⟩ (.slice A1 ws.length c1)).heap.size = M := by simpa using hM
  obtain ⟨Z, hZ⟩ : ∃ Z, (madeCells (Value.agg #[.int .i64 0, .int .i64 0, .int .i64 0, .int .i64 0, .int .i64 0, .slice none 0 0]).cells (cs.length * 6)).toList = Z := ⟨_, rfl⟩
  have hZl : Z.length = cs.length * 6 := by rw [← hZ, Array.length_toList, size_madeCells]
  have START : Hid (∀ w2 : World, w2.ownsRow (N + 2) 61 6 (.slice (some ⟨(w1.setCell ⟨N, 0, none⟩ (.slice A1 ws.length c1)).heap.size, 0, none⟩) cs.length cs.length) cs.length (madeCells (Value.agg #[.int .i64 0, .int .i64 0, .int .i64 0, .int .i64 0, .int .i64 0, .slice none 0 0]).cells (cs.length * 6)).toList → (w1.setCell ⟨N, 0, none⟩ (.slice A1 ws.length c1)).grownBy w2 none → Q.CInv N M cs.length w w2 A1 c1 ws #[.slice A1 ws.length c1, .slice ac cs.length cc, .int .i64 cl, .int .i64 af, .int .i64 up] [] Z ∧ M < w2.heap.size) := Lib.hid (fun w2 hown2 hg2 => by
    rw [hM2, hZ] at hown2
    have bg : Below (w1.setCell ⟨N, 0, none⟩ (.slice A1 ws.length c1)).heap.size (w1.setCell ⟨N, 0, none⟩ (.slice A1 ws.length c1)) w2 := ⟨hg2.os, hg2.tape, hg2.output, hg2.size, fun i hi => hg2.block i hi (by simp)⟩
    refine ⟨⟨own_under OWs.out bg, by simpa [R.ccs] using hown2, fun y hy => by (cases hy), (bg.block N (by rw [hM2]; omega)).trans VBs.out, (bg.block (N + 1) (by rw [hM2]; omega)).trans VRs.out, BEs.out.trans (bg.mono (by rw [hM2]; omega)), by have := bg.size; rw [hM2] at this; omega⟩, ?_⟩
    obtain ⟨cur, hh⟩ := own_type hown2 rfl
    exact (Array.getElem?_eq_some_iff.1 hh).1)
  have HM := Lib.hid hM
  have HZ := Lib.hid hZ
  clear VBs VRs OWs BEs hM2 hZ
  go_wp2_with (refine wpList_make_full _ rfl (.tmp 12) (.tmp 12) 23 rfl (N + 2) 61 iC (.agg #[.int .i64 0, .int .i64 0, .int .i64 0, .int .i64 0, .int .i64 0, .slice none 0 0]) 6 Try.underlying23 hiC hC0 hC1 .i64 .i64 _ _ cs.length rfl rfl rfl rfl (by rw [hC2]; omega) (by unfold maxLen; omega) (by simp; omega) ?_; intro w2 hown2 hg2; (have ST := START.out w2 hown2 hg2); (have INV := Lib.hid ST.1); (have hMs := ST.2); (have k1' := cell_of_block_ (i := 1) INV.out.vb); (simp at k1'); (clear hown2 hg2 ST START k0 k1 k1s f0 hM))
  rw [HM.out]
  go_loopw [17] (fun v wr => ∃ (k : Nat) (ys : List R.Cs), k ≤ cs.length ∧ v = .int .i64 k ∧ ys.length = k ∧ Hid (ys.map (·.c) = (xs.map (·.c)).take k) ∧ Hid (Q.CInv N M cs.length w wr A1 c1 ws #[.slice A1 ws.length c1, .slice ac cs.length cc, .int .i64 cl, .int .i64 af, .int .i64 up] ys (Z.drop (k * 6))) ∧ M < wr.heap.size) (fun v _ => cs.length - (intOf v).toNat)
  case atStart => exact ⟨0, [], Nat.zero_le _, rfl, rfl, Lib.hid rfl, by simpa using INV, hMs⟩
  case round =>
    clear INV hMs k1'
    obtain ⟨k, ys, hk, rfl, hyl0, hys, inv, hMr⟩ := hrel
    have HYL := Lib.hid hyl0
    clear hyl0
    by_cases hlt : k < cs.length
    · have hlx : k < xs.length := by rw [HXL.out]; exact hlt
      have bwr : Below B w wr := inv.out.be.mono hB
      obtain ⟨b4, o4, rfl, hb4, h4⟩ := (IX.out.below inv.out.be hB).at_ (by omega)
      obtain ⟨z0, z1, z2, z3, z4, z5⟩ := h4 k hlx
      obtain ⟨Ag, cg, sg, rg, hcg⟩ := IX.out.gl xs[k] (List.getElem_mem hlx)
      rw [sg] at z5
      have q1 : (0 : Int) ≤ (k : Int) := by omega
      have q2 : (k : Int) < (cs.length : Int) := by omega
      have hgl := XC.out k hlx
      have HYS : Hid (∀ v', (ys ++ [(⟨xs[k].c, v'⟩ : R.Cs)]).map (·.c) = (xs.map (·.c)).take (k + 1)) := Lib.hid (fun v' => by
        rw [List.take_succ_eq_append_getElem (by simpa using hlx), List.map_append, hys.out, List.getElem_map]; rfl)
      have CL := fun (W : World) (h : Below wr.heap.size wr W) => clone_any Ag cg B xs[k].c.gl W ((rg.below inv.out.be hB).below h (Nat.le_trans hB (Nat.le_trans (by omega) inv.out.hs))) (Nat.le_trans (Nat.le_trans hB (Nat.le_trans (by omega) inv.out.hs)) h.size) hgl
      obtain ⟨x, hx⟩ : ∃ x, xs[k].c = x := ⟨_, rfl⟩
      rw [hx] at z0 z1 z2 z3 z4 z5 HYS CL hgl
      obtain ⟨p0, p1, p2, p3, p4, g⟩ := x
      simp only at z0 z1 z2 z3 z4 z5 CL hgl
      have BA : Hid (Below wr.heap.size wr (wr.alloc (.cells #[.int .i64 p0, .int .i64 p1, .int .i64 p2, .int .i64 p3, .int .i64 p4, .slice Ag g.length cg] 61))) := Lib.hid (below_box wr _)
      have VA : Hid ((wr.alloc (.cells #[.int .i64 p0, .int .i64 p1, .int .i64 p2, .int .i64 p3, .int .i64 p4, .slice Ag g.length cg] 61)).heap[wr.heap.size]? = some (.cells #[.int .i64 p0, .int .i64 p1, .int .i64 p2, .int .i64 p3, .int .i64 p4, .slice Ag g.length cg] 61 (0, 0))) := Lib.hid (heap_alloc_new wr _)
      have CL1 := Lib.hid (CL _ BA.out)
      have hsr := inv.out.hs
      have hba : wr.heap.size < (wr.alloc (.cells #[.int .i64 p0, .int .i64 p1, .int .i64 p2, .int .i64 p3, .int .i64 p4, .slice Ag g.length cg] 61)).heap.size := by simp
      clear h4 sg rg hcg hx CL hys bwr
      go_wp2_with fail
      refine CL1.out.mono ?_
      rintro e w6 ⟨v6, rfl, own6, b6⟩
      obtain ⟨A6, c6, rfl, _, _⟩ := own_reads_cap own6
      have inv6 := inv.out.below (BA.out.trans (b6.mono BA.out.size))
      have V6 := (b6.block wr.heap.size hba).trans VA.out
      have own6' := own_lower (base' := N + 2) own6 (by rw [World.size_alloc]; omega)
      obtain ⟨bx, hbx⟩ : ∃ bx, wr.heap.size = bx := ⟨_, rfl⟩
      rw [hbx] at V6 hMr hsr
      have y0 := cell_of_block_ (i := 0) V6
      have y1 := cell_of_block_ (i := 1) V6
      have y2 := cell_of_block_ (i := 2) V6
      have y3 := cell_of_block_ (i := 3) V6
      have y4 := cell_of_block_ (i := 4) V6
      have y5 := cell_of_block_ (i := 5) V6
      have f5 := unfrozen_of_block V6
      simp at y0 y1 y2 y3 y4 y5
      have hM2 := own_type inv6.om rfl
      have hMb : M ≠ bx := by omega
      have hN2 : N + 2 ≤ M := hs1
      have inv7 := inv6.box V6 hsr hMb 5 (.slice A6 g.length c6)
      have own7 := own_set_other own6' V6 (by decide) 5 (.slice A6 g.length c6)
      have hZk : 6 ≤ (Z.drop (k * 6)).length := by rw [List.length_drop, hZl]; omega
      have TH := own_there (m := 6) (o := k * 6) inv7.om (by rw [List.length_append, R.ccs_len, HYL.out]; omega)
      have inv8 := inv7.put hN2 (y := ⟨⟨p0, p1, p2, p3, p4, g⟩, .slice A6 g.length c6⟩) own7 hZk
      have HI : (Try.prog.info? 61).map (·.size) = some (6 : Nat) := by kernel_rfl
      have hM8 : M < (w6.setCell ⟨bx, 5, none⟩ (.slice A6 g.length c6)).heap.size := by have := (Array.getElem?_eq_some_iff.1 hM2.choose_spec).1; simpa using this
      rw [HYL.out, List.drop_drop] at inv8
      simp only [R.Cs.cells] at inv8
      replace inv8 := Lib.hid inv8
      have HM9 : M < ((w6.setCell ⟨bx, 5, none⟩ (.slice A6 g.length c6)).setCells M (k * 6) [.int .i64 p0, .int .i64 p1, .int .i64 p2, .int .i64 p3, .int .i64 p4, .slice A6 g.length c6]).heap.size := by
        obtain ⟨cur, hh⟩ := own_type inv8.out.om rfl
        exact (Array.getElem?_eq_some_iff.1 hh).1
      replace TH := Lib.hid TH
      replace HI := Lib.hid HI
      have H1 : (#[.int .i64 p0, .int .i64 p1, .int .i64 p2, .int .i64 p3, .int .i64 p4, .slice A6 g.length c6] : Array Value).all (·.oneCell') = true := by simp [Value.oneCell']
      replace H1 := Lib.hid H1
      rw [hbx]
      clear CL1 own6 b6 inv inv6 inv7 own6' own7 BA VA hM2 hba hbx V6
      obtain ⟨W8, hW8⟩ : ∃ W, (w6.setCell ⟨bx, 5, none⟩ (.slice A6 g.length c6)).setCells M (k * 6) #[.int .i64 p0, .int .i64 p1, .int .i64 p2, .int .i64 p3, .int .i64 p4, .slice A6 g.length c6].toList = W := ⟨_, rfl⟩
      have inv9 := inv8.out
      rw [show [.int .i64 p0, .int .i64 p1, .int .i64 p2, .int .i64 p3, .int .i64 p4, .slice A6 g.length c6] = (#[.int .i64 p0, .int .i64 p1, .int .i64 p2, .int .i64 p3, .int .i64 p4, .slice A6 g.length c6] : Array Value).toList from rfl, hW8] at inv9 HM9
      replace inv9 := Lib.hid inv9
      clear inv8
      go_wp2_with (refine wpList_store_mid rfl 61 (.tmp 29) (.tmp 28) rfl M (k * 6) #[.int .i64 p0, .int .i64 p1, .int .i64 p2, .int .i64 p3, .int .i64 p4, .slice A6 g.length c6] ?hx ?hy TH.out HI.out H1.out ?_; (case hx => rfl); (case hy => rfl); (rw [hW8]); (clear hW8))
      exact ⟨⟨k + 1, ys ++ [⟨⟨p0, p1, p2, p3, p4, g⟩, .slice A6 g.length c6⟩], hlt, by go_num, by rw [List.length_append, HYL.out]; rfl, Lib.hid (HYS.out _), by rw [Nat.add_mul]; exact inv9, HM9⟩, by simp [intOf]; omega⟩
    · obtain rfl : k = cs.length := by omega
      have q2 : decide (cs.length < cs.length) = false := decide_eq_false (by omega)
      have y0 := cell_of_block_ (i := 0) inv.out.vb
      have y1 := cell_of_block_ (i := 1) inv.out.vb
      have y2 := cell_of_block_ (i := 2) inv.out.vb
      have y3 := cell_of_block_ (i := 3) inv.out.vb
      have y4 := cell_of_block_ (i := 4) inv.out.vb
      have f5 := unfrozen_of_block inv.out.vb
      have x0 := cell_of_block_ (i := 0) inv.out.vr
      have x1 := cell_of_block_ (i := 1) inv.out.vr
      have x2 := cell_of_block_ (i := 2) inv.out.vr
      have x3 := cell_of_block_ (i := 3) inv.out.vr
      have x4 := cell_of_block_ (i := 4) inv.out.vr
      have g5 := unfrozen_of_block inv.out.vr
      simp at y0 y1 y2 y3 y4 x0 x1 x2 x3 x4
      have INV := inv
      clear inv
      go_wp2_with fail
      obtain ⟨W9, hW9⟩ : ∃ W, (((((wr.setCell ⟨N, 1, none⟩ (.slice (some ⟨M, 0, none⟩) cs.length cs.length)).setCell ⟨N + 1, 0, none⟩ (.slice A1 ws.length c1)).setCell ⟨N + 1, 1, none⟩ (.slice (some ⟨M, 0, none⟩) cs.length cs.length)).setCell ⟨N + 1, 2, none⟩ (.int .i64 cl)).setCell ⟨N + 1, 3, none⟩ (.int .i64 af)).setCell ⟨N + 1, 4, none⟩ (.int .i64 up) = W := ⟨_, rfl⟩
      obtain ⟨o1, o2, o3, V9, B9⟩ := INV.out.fin _ _ _ _ _ _ hW9
      rw [hW9]
      have r0 := cell_of_block_ (i := 0) V9
      have r1 := cell_of_block_ (i := 1) V9
      have r2 := cell_of_block_ (i := 2) V9
      have r3 := cell_of_block_ (i := 3) V9
      have r4 := cell_of_block_ (i := 4) V9
      simp at r0 r1 r2 r3 r4
      have hym : ys.map (·.c) = cs := by rw [hys.out, EX.out, List.take_length]
      have hz0 : Z.drop (cs.length * 6) = [] := List.drop_of_length_le (by omega)
      rw [hz0, List.append_nil] at o2
      have hN9 : w.heap.size = N := HN.out
      refine bodyPost_ret (v := .agg #[.slice A1 ws.length c1, .slice (some ⟨M, 0, none⟩) cs.length cs.length, .int .i64 cl, .int .i64 af, .int .i64 up]) (by simp [results, Try.results41, go_sem, r0, r1, r2, r3, r4]) rfl ⟨⟨⟨ws, cs, cl, af, up⟩, A1, c1, some ⟨M, 0, none⟩, cs.length⟩, rfl, rfl, ⟨own_lower o1 (by omega), ys, hym, own_lower o2 (by omega), fun y hy => own_lower (o3 y hy) (by omega)⟩, by rw [hN9]; exact B9⟩
theorem copied_any (m : Q.Um) (B : Nat) (w : World) (h : Q.UIn w B m) (hB : B ≤ w.heap.size) (hok : m.u.Cp) :
    Calls Try.prog 41 #[.agg m.cells.toArray] w fun e w' => Q.UOut m.u w w' e :=
  (copied_own m B w h hB hok).mono fun e w' ⟨m', e1, e2, o, b⟩ => ⟨m', e1, e2, o.uin, b⟩
end Go.Proofs.Ytfjkelngdljikaa
