/-
  What the iterator over the walk's steps asks of Script's variables: the edits so far, in memory of the call's own. No program in sight. By an AI agent.
-/
import Derived.Test.YteakiielcmgkeaaWkG
import Derived.Test.YteakiielcmgkeaaEds
import Derived.Test.YteakiielcmgkeaaEPlain4
namespace Go.Proofs.Yteakiielcmgkeaa
set_option linter.unusedSimpArgs false
set_option linter.unusedVariables false
open Go.RowKit Go.Shelf Go.Deep

theorem boxed_below {W W' : World} {B : Nat} {t : TypeId} {v : Value} (h : Boxed W B t v) (hb : Below W.heap.size W W') : Boxed W' B t v := (hb.block B h.lt).trans h
theorem boxed_put {W : World} {B l : Nat} {t : TypeId} {v : Value} {o : Obj} (h : Boxed W B t v) (hl : W.heap[l]? = some o) (ho : o.isCells = false) (o' : Obj) : Boxed (W.putObj l o') B t v :=
  h.kept (grownBy_putObj' W l o') (fun e => by cases e; rw [show W.heap[B]? = _ from h] at hl; cases hl; cases ho)
theorem boxed_fun {W : World} {B : Nat} {t t' : TypeId} {v v' : Value} (h : Boxed W B t v) (h' : Boxed W B t' v') : v = v' := by
  have := (show W.heap[B]? = _ from h).symm.trans (show W.heap[B]? = _ from h')
  injection this with this
  injection this with this
  simpa using this
theorem own_keep {W W' : World} {base : Nat} {e : TypeId} {size : Nat} {v : Value} {k : Nat} {xs : List Value} (h : W.ownsRow base e size v k xs) (hb : Below W.heap.size W W') : W'.ownsRow base e size v k xs :=
  h.kept (below_grown hb) (by cases hv : v.ownBlock <;> simp)
theorem own_less {w : World} {base base' : Nat} {e : TypeId} {size n : Nat} {v : Value} {xs : List Value} (h : w.ownsRow base e size v n xs) (hb : base' ≤ base) : w.ownsRow base' e size v n xs :=
  ⟨h.1, h.2.imp id (fun ⟨g, cap, cur, h1, h2, h3⟩ => ⟨g, cap, cur, h1, Nat.le_trans hb h2, h3⟩)⟩
theorem own_fun {w : World} {b b' : Nat} {e e' : TypeId} {size n n' : Nat} {v : Value} {xs xs' : List Value} (h : w.ownsRow b e size v n xs) (h' : w.ownsRow b' e' size v n' xs') : xs = xs' := by
  rcases h.2 with ⟨rfl, rfl⟩ | ⟨g, cap, cur, rfl, _, hg, _, _, _, hx⟩
  · have e1 : xs = [] := List.eq_nil_of_length_eq_zero (by simpa using h.1)
    rcases h'.2 with ⟨_, rfl⟩ | ⟨g, cap, cur, h2, _⟩
    · have e2 : xs' = [] := List.eq_nil_of_length_eq_zero (by simpa using h'.1)
      rw [e1, e2]
    · cases h2
  · rcases h'.2 with ⟨h2, _⟩ | ⟨g', cap', cur', h2, _, hg', _, _, _, hx'⟩
    · cases h2
    · cases h2
      rw [hg] at hg'
      cases hg'
      rw [← hx, ← hx']

namespace E
theorem Kp.refl (G : World → Prop) (Fr : Nat → Nat → World → Prop) (W : World) : Kp G Fr W W := ⟨id, fun _ _ f h => ⟨f, h, fun _ _ _ _ ho _ => ho⟩⟩

section
variable {α : Type} (TO TE TI TS sz : Nat) (cv : α → List Value)

/-- The variable and the edits that it holds. -/
structure SJ (Bx : Nat) (W : World) (v : Value) (es : List (Es α)) : Prop where
  box : Boxed W (Bx + 1) TO v
  eds : Eds TE TI sz cv (Bx + 6) W v es
def Own (v : Value) (es : List (Es α)) (g : Nat) : Prop := v.ownBlock = some g ∨ ∃ x ∈ es, x.sl.ownBlock = some g
def SG (w : World) (Bx : Nat) (a1 a2 : Value) (W : World) : Prop :=
  Boxed W Bx TS a2 ∧ Boxed W (Bx + 4) TS a1 ∧ Boxed W (Bx + 5) TS a2 ∧ Below Bx w W ∧ ∃ v es, SJ TO TE TI sz cv Bx W v es
def SF (Bx T H : Nat) (W : World) : Prop := Bx + 6 ≤ T ∧ ∃ v es, SJ TO TE TI sz cv Bx W v es ∧ ∀ g, Own v es g → g < T ∨ H ≤ g
end

section
variable {α : Type} {TO TE TI TS sz : Nat} {cv : α → List Value} {w W W' : World} {Bx : Nat} {a1 a2 v v' : Value} {es es' : List (Es α)}

theorem own_cells {g : Nat} : (∃ x ∈ es, x.sl.ownBlock = some g) ↔ ∃ u ∈ es.flatMap ec, u.ownBlock = some g := by
  constructor
  · rintro ⟨x, hx, e⟩
    exact ⟨x.sl, List.mem_flatMap.2 ⟨x, hx, by simp [ec]⟩, e⟩
  · rintro ⟨u, hu, e⟩
    obtain ⟨x, hx, hu⟩ := List.mem_flatMap.1 hu
    simp only [ec, List.mem_cons, List.not_mem_nil, or_false] at hu
    rcases hu with rfl | rfl | rfl
    · cases e
    · cases e
    · exact ⟨x, hx, e⟩
theorem SJ.fun_ {es' : List (Es α)} (h : SJ TO TE TI sz cv Bx W v es) (h' : SJ TO TE TI sz cv Bx W v' es') : v = v' ∧ ∀ g, Own v es g ↔ Own v' es' g := by
  have e := boxed_fun h.box h'.box
  subst e
  have e := own_fun h.eds.own h'.eds.own
  exact ⟨rfl, fun g => or_congr Iff.rfl (by rw [own_cells, own_cells, e])⟩
theorem SJ.lt (h : SJ TO TE TI sz cv Bx W v es) {g : Nat} (hg : Own v es g) : Bx + 6 ≤ g ∧ g < W.heap.size := by
  rcases hg with hg | ⟨x, hx, hg⟩
  · exact h.eds.own.lt g hg
  · exact (h.eds.ins x hx).lt g hg
theorem SJ.type (h : SJ TO TE TI sz cv Bx W v es) {g : Nat} (hg : Own v es g) : ∃ cur t, W.heap[g]? = some (.cells cur t (0, 0)) ∧ (t = TE ∨ t = TI) := by
  rcases hg with hg | ⟨x, hx, hg⟩
  · obtain ⟨cur, hc⟩ := own_type h.eds.own hg; exact ⟨cur, _, hc, .inl rfl⟩
  · obtain ⟨cur, hc⟩ := own_type (h.eds.ins x hx) hg; exact ⟨cur, _, hc, .inr rfl⟩
theorem SJ.below (h : SJ TO TE TI sz cv Bx W v es) (hb : Below W.heap.size W W') : SJ TO TE TI sz cv Bx W' v es := ⟨boxed_below h.box hb, eds_grown h.eds (below_grown hb)⟩
/-- A turn of one block that is neither the variable nor a row of the edits. -/
theorem SJ.kept {row : Option Nat} (h : SJ TO TE TI sz cv Bx W v es) (hg : W.grownBy W' row) (hr : ∀ r, row = some r → r ≠ Bx + 1 ∧ ¬ Own v es r) : SJ TO TE TI sz cv Bx W' v es :=
  ⟨h.box.kept hg (fun e => (hr _ e.symm).1 rfl), eds_kept h.eds hg (fun g hv e => (hr g e).2 (.inl hv)) (fun x hx g hv e => (hr g e).2 (.inr ⟨x, hx, hv⟩))⟩

theorem SG.below (hw : w.heap.size = Bx) (h : SG TO TE TI TS sz cv w Bx a1 a2 W) (hb : Below W.heap.size W W') : SG TO TE TI TS sz cv w Bx a1 a2 W' := by
  obtain ⟨h1, h2, h3, h4, v, es, h5⟩ := h
  exact ⟨boxed_below h1 hb, boxed_below h2 hb, boxed_below h3 hb, h4.trans (hb.mono (hw ▸ h4.size)), v, es, h5.below hb⟩
theorem SG.free (h : SG TO TE TI TS sz cv w Bx a1 a2 W) (hb : Below W.heap.size W W') : SF TO TE TI sz cv Bx W.heap.size W'.heap.size W' := by
  obtain ⟨h1, h2, h3, h4, v, es, h5⟩ := h
  exact ⟨by have := h3.lt; omega, v, es, h5.below hb, fun g hg => .inl (h5.lt hg).2⟩
theorem SF.drewN {T H : Nat} (k : Nat) (h : SF TO TE TI sz cv Bx T H W) : SF TO TE TI sz cv Bx T H (W.drewN k) := by
  obtain ⟨h0, v, es, h1, h2⟩ := h
  exact ⟨h0, v, es, ⟨h1.box, h1.eds.own, h1.eds.ins, h1.eds.sep⟩, h2⟩

theorem skp_gen (hw : w.heap.size = Bx) (h : SJ TO TE TI sz cv Bx W v es) (h' : SJ TO TE TI sz cv Bx W' v' es') (hsz : W.heap.size ≤ W'.heap.size)
    (hb : ∀ B t u, (B = Bx ∨ B = Bx + 4 ∨ B = Bx + 5) → Boxed W B t u → Boxed W' B t u) (hbel : Below Bx W W')
    (hown : ∀ g, Own v' es' g → Own v es g ∨ W.heap.size ≤ g) (hblk : ∀ k, Bx + 6 ≤ k → k < W.heap.size → ¬ Own v es k → W'.heap[k]? = W.heap[k]?) :
    Kp (SG TO TE TI TS sz cv w Bx a1 a2) (SF TO TE TI sz cv Bx) W W' := by
  refine ⟨?_, fun T H hf hH => ?_⟩
  · rintro ⟨h1, h2, h3, h4, -⟩
    exact ⟨hb _ _ _ (.inl rfl) h1, hb _ _ _ (.inr (.inl rfl)) h2, hb _ _ _ (.inr (.inr rfl)) h3, h4.trans hbel, v', es', h'⟩
  · obtain ⟨h0, v2, es2, h1, h2⟩ := hf
    obtain ⟨_, hO⟩ := h1.fun_ h
    refine ⟨⟨h0, v', es', h', fun g hg => ?_⟩, Nat.le_trans hH hsz, fun k k1 k2 o ho _ => (hblk k (by omega) (by omega) (fun e => by have := h2 k ((hO k).2 e); omega)).trans ho⟩
    rcases hown g hg with e | e
    · exact h2 g ((hO g).2 e)
    · exact .inr (Nat.le_trans hH e)

theorem skp_below (hw : w.heap.size = Bx) (hx : Bx + 6 ≤ W.heap.size) (h : SJ TO TE TI sz cv Bx W v es) (hb : Below W.heap.size W W') : Kp (SG TO TE TI TS sz cv w Bx a1 a2) (SF TO TE TI sz cv Bx) W W' :=
  skp_gen hw h (h.below hb) hb.size (fun _ _ _ _ hB => boxed_below hB hb) (hb.mono (by omega)) (fun g hg => .inl hg) (fun k _ hk _ => hb.block k hk)
/-- A store into one of the boxes that the edits and the iterator do not use. -/
theorem sj_box {B : Nat} {t : TypeId} {u0 : Value} (u : Value) (h : SJ TO TE TI sz cv Bx W v es) (hB : B = Bx + 2 ∨ B = Bx + 3) (hbx : Boxed W B t u0) : SJ TO TE TI sz cv Bx (W.setCell ⟨B, 0, none⟩ u) v es :=
  h.kept (grownBy_setCell' W B u) (fun r e => by cases e; exact ⟨by omega, fun ho => by have := (h.lt ho).1; omega⟩)
theorem skp_box {B : Nat} {t : TypeId} {u0 : Value} (u : Value) (hw : w.heap.size = Bx) (h : SJ TO TE TI sz cv Bx W v es) (hB : B = Bx + 2 ∨ B = Bx + 3) (hbx : Boxed W B t u0) : Kp (SG TO TE TI TS sz cv w Bx a1 a2) (SF TO TE TI sz cv Bx) W (W.setCell ⟨B, 0, none⟩ u) :=
  skp_gen hw h (sj_box u h hB hbx) (grownBy_setCell' W B u).size (fun B' t' u' hB' hb' => hb'.other (by omega) u) ((Below.refl _ W).setCell (by show Bx ≤ B; omega) u) (fun g hg => .inl hg)
    (fun k hk _ _ => Below.heap_setCell _ _ _ k (fun e => by simp at e; omega))
theorem skp_put {l : Nat} {o : Obj} (o' : Obj) (hw : w.heap.size = Bx) (hl : Bx + 6 ≤ l) (ho : W.heap[l]? = some o) (hc : o.isCells = false) : Kp (SG TO TE TI TS sz cv w Bx a1 a2) (SF TO TE TI sz cv Bx) W (W.putObj l o') := by
  have hgr := grownBy_putObj' W l o'
  have hk : ∀ {v es}, SJ TO TE TI sz cv Bx W v es → SJ TO TE TI sz cv Bx (W.putObj l o') v es := fun h => h.kept hgr (fun r e => by
    cases e
    refine ⟨by omega, fun hO => ?_⟩
    obtain ⟨cur, t, h1, _⟩ := h.type hO
    rw [h1] at ho; cases ho; cases hc)
  refine ⟨?_, fun T H hf hH => ⟨?_, Nat.le_trans hH hgr.size, fun k _ h2 o2 ho2 hc2 => ?_⟩⟩
  · rintro ⟨h1, h2, h3, h4, v, es, h5⟩
    exact ⟨boxed_put h1 ho hc o', boxed_put h2 ho hc o', boxed_put h3 ho hc o', h4.grown hgr (hw ▸ h4.size) (fun k e => by cases e; omega), v, es, hk h5⟩
  · obtain ⟨h0, v, es, h1, h2⟩ := hf
    exact ⟨h0, v, es, hk h1, h2⟩
  · exact (hgr.block k (by omega) (fun e => by cases e; rw [ho] at ho2; cases ho2; rw [hc] at hc2; cases hc2)).trans ho2

theorem sj_push (h : SJ TO TE TI sz cv Bx W v es) (hT : TE ≠ TI) (hO : TO ≠ TE) {W1 : World} {e : Ed α} (hi : e.ins = []) (hg : W.grownBy W1 v.ownBlock)
    (hown : W1.ownsRow (Bx + 6) TE 3 v' (es.length + 1) (es.flatMap ec ++ ec ⟨e, .slice none 0 0⟩)) (hnew : v'.ownBlock = v.ownBlock ∨ v'.ownBlock = some W.heap.size) :
    SJ TO TE TI sz cv Bx (W1.setCell ⟨Bx + 1, 0, none⟩ v') v' (es ++ [⟨e, .slice none 0 0⟩]) := by
  have h1 := eds_push h.eds hT hi hg hown
  have hb := h.box.kept hg (h.box.not_row hO h.eds.own)
  exact ⟨hb.set v', eds_kept h1 (grownBy_setCell' W1 (Bx + 1) v') (fun g hv e => by cases e; have := (h1.own.lt _ hv).1; omega) (fun x hx g hv e => by cases e; have := ((h1.ins x hx).lt _ hv).1; omega)⟩
theorem skp_push (hw : w.heap.size = Bx) (h : SJ TO TE TI sz cv Bx W v es) (hT : TE ≠ TI) (hO : TO ≠ TE) {W1 : World} {e : Ed α} (hi : e.ins = []) (hg : W.grownBy W1 v.ownBlock)
    (hown : W1.ownsRow (Bx + 6) TE 3 v' (es.length + 1) (es.flatMap ec ++ ec ⟨e, .slice none 0 0⟩)) (hnew : v'.ownBlock = v.ownBlock ∨ v'.ownBlock = some W.heap.size) (hx : Bx + 6 ≤ W.heap.size) :
    Kp (SG TO TE TI TS sz cv w Bx a1 a2) (SF TO TE TI sz cv Bx) W (W1.setCell ⟨Bx + 1, 0, none⟩ v') := by
  have hv : ∀ g, v.ownBlock = some g → Bx + 6 ≤ g := fun g e => (h.eds.own.lt g e).1
  refine skp_gen hw h (sj_push h hT hO hi hg hown hnew) (by simpa using hg.size) (fun B t u hB hb => ?_) ?_ (fun g hgo => ?_) (fun k hk hk2 hno => ?_)
  · exact (hb.kept hg (fun e => by have := hv _ e.symm; omega)).other (by omega) v'
  · exact ((Below.refl Bx W).grown hg (by omega) (fun k e => by have := hv k e; omega)).setCell (by show Bx ≤ Bx + 1; omega) _
  · rcases hgo with e1 | ⟨x, hx', e1⟩
    · rcases hnew with e2 | e2
      · exact .inl (.inl (e2 ▸ e1))
      · rw [e2] at e1; cases e1; exact .inr (Nat.le_refl _)
    · rcases List.mem_append.1 hx' with hx' | hx'
      · exact .inl (.inr ⟨x, hx', e1⟩)
      · simp at hx'; subst hx'; cases e1
  · exact (Below.heap_setCell _ _ _ k (fun e => by simp at e; omega)).trans (hg.block k hk2 (fun e => hno (.inl e.symm)))

theorem skp_cell {g o : Nat} {u : Value} (hw : w.heap.size = Bx) (h : SJ TO TE TI sz cv Bx W v es) (hg : v.ownBlock = some g) (hown : ∀ k, Own v es' k ↔ Own v es k) (h' : Eds TE TI sz cv (Bx + 6) (W.setCell ⟨g, o, none⟩ u) v es') :
    SJ TO TE TI sz cv Bx (W.setCell ⟨g, o, none⟩ u) v es' ∧ Kp (SG TO TE TI TS sz cv w Bx a1 a2) (SF TO TE TI sz cv Bx) W (W.setCell ⟨g, o, none⟩ u) := by
  have hb := (h.lt (.inl hg)).1
  have hgr := grown_setCell W g o u
  have hs : SJ TO TE TI sz cv Bx (W.setCell ⟨g, o, none⟩ u) v es' := ⟨h.box.kept hgr (fun e => by cases e; omega), h'⟩
  exact ⟨hs, skp_gen hw h hs (by simp) (fun B t x hB hx => hx.kept hgr (fun e => by cases e; omega)) ((Below.refl Bx W).setCell (by show Bx ≤ g; omega) u) (fun k hk => .inl ((hown k).1 hk))
    (fun k _ _ hno => Below.heap_setCell _ _ _ k (fun e => hno (.inl (by rw [hg]; simp at e; rw [e]))))⟩

theorem own_last {l : List (Es α)} {x y : Es α} (hxy : x.sl = y.sl) (k : Nat) : Own v (l ++ [y]) k ↔ Own v (l ++ [x]) k := by
  unfold Own
  simp [or_and_right, exists_or, hxy]

theorem skp_del {g cap : Nat} {l : List (Es α)} {x : Es α} (hw : w.heap.size = Bx) (hT : TE ≠ TI) (hv : v = .slice (some ⟨g, 0, none⟩) (l.length + 1) cap) (h : SJ TO TE TI sz cv Bx W v (l ++ [x])) (d : Int) :
    SJ TO TE TI sz cv Bx (W.setCell ⟨g, l.length * 3 + 1, none⟩ (.int .i64 d)) v (l ++ [⟨{ x.ed with del := d }, x.sl⟩]) ∧ Kp (SG TO TE TI TS sz cv w Bx a1 a2) (SF TO TE TI sz cv Bx) W (W.setCell ⟨g, l.length * 3 + 1, none⟩ (.int .i64 d)) :=
  skp_cell hw h (by subst hv; rfl) (own_last rfl) (eds_del hT hv h.eds d)

theorem skp_ins {g cap : Nat} {l : List (Es α)} {x : Es α} {u : Value} {more : List α} {W1 : World} (hw : w.heap.size = Bx) (hT : TE ≠ TI) (hO : TO ≠ TI) (hv : v = .slice (some ⟨g, 0, none⟩) (l.length + 1) cap) (h : SJ TO TE TI sz cv Bx W v (l ++ [x])) (hx6 : Bx + 6 ≤ W.heap.size)
    (hg1 : W.grownBy W1 x.sl.ownBlock) (hown : W1.ownsRow (Bx + 6) TI sz u (x.ed.ins.length + more.length) (x.ed.ins.flatMap cv ++ more.flatMap cv)) (hnew : u.ownBlock = x.sl.ownBlock ∨ u.ownBlock = some W.heap.size) :
    SJ TO TE TI sz cv Bx (W1.setCell ⟨g, l.length * 3 + 2, none⟩ u) v (l ++ [⟨{ x.ed with ins := x.ed.ins ++ more }, u⟩]) ∧ Kp (SG TO TE TI TS sz cv w Bx a1 a2) (SF TO TE TI sz cv Bx) W (W1.setCell ⟨g, l.length * 3 + 2, none⟩ u) := by
  have he := eds_ins hT hv h.eds hg1 hown hnew
  have hg : v.ownBlock = some g := by subst hv; rfl
  have hgb := h.lt (.inl hg)
  have hsb : ∀ k, x.sl.ownBlock = some k → Bx + 6 ≤ k ∧ k < W.heap.size := fun k e => h.lt (.inr ⟨x, by simp, e⟩)
  have hs : SJ TO TE TI sz cv Bx (W1.setCell ⟨g, l.length * 3 + 2, none⟩ u) v (l ++ [⟨{ x.ed with ins := x.ed.ins ++ more }, u⟩]) :=
    ⟨(h.box.kept hg1 (fun e => by have := hsb _ e.symm; omega)).kept (grown_setCell W1 g _ u) (fun e => by cases e; omega), he⟩
  refine ⟨hs, skp_gen hw h hs (by have := hg1.size; simpa using this) (fun B t y hB hy => ?_) ?_ (fun k hk => ?_) (fun k hk hk2 hno => ?_)⟩
  · exact (hy.kept hg1 (fun e => by have := hsb _ e.symm; omega)).kept (grown_setCell W1 g _ u) (fun e => by cases e; omega)
  · exact ((Below.refl Bx W).grown hg1 (by omega) (fun k e => by have := hsb k e; omega)).setCell (by show Bx ≤ g; omega) _
  · rcases hk with e1 | ⟨y, hy, e1⟩
    · exact .inl (.inl e1)
    · rcases List.mem_append.1 hy with hy | hy
      · exact .inl (.inr ⟨y, by simp [hy], e1⟩)
      · simp at hy
        subst hy
        rcases hnew with e2 | e2
        · exact .inl (.inr ⟨x, by simp, e2 ▸ e1⟩)
        · simp only at e1
          rw [e2] at e1; cases e1; exact .inr (Nat.le_refl _)
  · exact (Below.heap_setCell _ _ _ k (fun e => hno (.inl (by rw [hg]; simp at e; rw [e])))).trans (hg1.block k hk2 (fun e => hno (.inr ⟨x, by simp, e.symm⟩)))

/-- The cells of the last edit. -/
theorem SJ.last {g cap : Nat} {l : List (Es α)} {x : Es α} (h : SJ TO TE TI sz cv Bx W (.slice (some ⟨g, 0, none⟩) (l.length + 1) cap) (l ++ [x])) :
    W.cell? ⟨g, l.length * 3 + 1, none⟩ = some (.int .i64 x.ed.del) ∧ W.cell? ⟨g, l.length * 3 + 2, none⟩ = some x.sl ∧ W.frozen? ⟨g, l.length * 3 + 1, none⟩ = false ∧ W.frozen? ⟨g, l.length * 3 + 2, none⟩ = false := by
  have own1 := h.eds.own
  rw [show (l ++ [x]).length = l.length + 1 by simp] at own1
  have c : ∀ j u, j < 3 → (ec x)[j]? = some u → W.cell? ⟨g, l.length * 3 + j, none⟩ = some u := fun j u hj hu => by
    rw [own1.cellAt (l.length * 3 + j) (by omega), flat_get ec 3 (l ++ [x]) ec_len l.length j hj]
    simpa using hu
  exact ⟨c 1 _ (by decide) rfl, c 2 _ (by decide) rfl, own1.frozenAt _, own1.frozenAt _⟩
theorem SJ.kinds {g : Nat} (h : SJ TO TE TI sz cv Bx W v es) (hg : Own v es g) {o : Obj} (ho : W.heap[g]? = some o) : o.isCells = true := by
  obtain ⟨cur, t, h1, _⟩ := h.type hg
  rw [h1] at ho; cases ho; rfl

theorem push_fin {B0 ty : Nat} {cs : List Value} {o jv : Value} {W2 : World} {e : Ed α} (o' : Value) (hw : w.heap.size = Bx) (hT : TE ≠ TI) (hO : TO ≠ TE) (hs : SJ TO TE TI sz cv Bx W v es) (hx6 : Bx + 6 ≤ W.heap.size) (hop : Boxed W (Bx + 2) 4 o) (hj : Boxed W (Bx + 3) 3 jv)
    (hi : e.ins = []) (hgrow : (W.alloc (.cells cs.toArray ty)).grownBy W2 v.ownBlock) (hown : W2.ownsRow (Bx + 6) TE 3 v' (es.length + 1) (es.flatMap ec ++ ec ⟨e, .slice none 0 0⟩)) (hnew : v'.ownBlock = v.ownBlock ∨ v'.ownBlock = some (W.alloc (.cells cs.toArray ty)).heap.size) :
    (Boxed W2 (Bx + 1) TO v ∧ Boxed (W2.setCell ⟨Bx + 1, 0, none⟩ v') (Bx + 2) 4 o) ∧ KeepsFrom B0 W ((W2.setCell ⟨Bx + 1, 0, none⟩ v').setCell ⟨Bx + 2, 0, none⟩ o') ∧
      Kp (SG TO TE TI TS sz cv w Bx a1 a2) (SF TO TE TI sz cv Bx) W ((W2.setCell ⟨Bx + 1, 0, none⟩ v').setCell ⟨Bx + 2, 0, none⟩ o') ∧ Bx + 6 ≤ ((W2.setCell ⟨Bx + 1, 0, none⟩ v').setCell ⟨Bx + 2, 0, none⟩ o').heap.size ∧
      SJ TO TE TI sz cv Bx ((W2.setCell ⟨Bx + 1, 0, none⟩ v').setCell ⟨Bx + 2, 0, none⟩ o') v' (es ++ [⟨e, .slice none 0 0⟩]) ∧ Boxed ((W2.setCell ⟨Bx + 1, 0, none⟩ v').setCell ⟨Bx + 2, 0, none⟩ o') (Bx + 2) 4 o' ∧ Boxed ((W2.setCell ⟨Bx + 1, 0, none⟩ v').setCell ⟨Bx + 2, 0, none⟩ o') (Bx + 3) 3 jv := by
  obtain ⟨Wb, hWb⟩ : ∃ Wb, W.alloc (.cells cs.toArray ty) = Wb := ⟨_, rfl⟩
  have hbel : Below W.heap.size W Wb := hWb ▸ (Below.refl _ W).alloc (Nat.le_refl _) _
  rw [hWb] at hgrow hnew
  have sb := hs.below hbel
  have kb := skp_below (TS := TS) (w := w) (a1 := a1) (a2 := a2) hw hx6 hs hbel
  have hxb : Bx + 6 ≤ Wb.heap.size := Nat.le_trans hx6 hbel.size
  have hvl : ∀ k, v.ownBlock = some k → Bx + 6 ≤ k := fun k e => (sb.lt (.inl e)).1
  have b2 := sb.box.kept hgrow (fun e => by have := hvl _ e.symm; omega)
  have o2 := (boxed_below hop hbel).kept hgrow (fun e => by have := hvl _ e.symm; omega)
  have j2 := (boxed_below hj hbel).kept hgrow (fun e => by have := hvl _ e.symm; omega)
  have s1 := sj_push sb hT hO hi hgrow hown hnew
  have k1 := skp_push (TS := TS) (w := w) (a1 := a1) (a2 := a2) hw sb hT hO hi hgrow hown hnew hxb
  have o3 := o2.other (B' := Bx + 1) (by omega) v'
  have j3 := j2.other (B' := Bx + 1) (by omega) v'
  have s2 := sj_box o' s1 (.inl rfl) o3
  have k2 := skp_box (TS := TS) (w := w) (a1 := a1) (a2 := a2) o' hw s1 (.inl rfl) o3
  refine ⟨⟨b2, o3⟩, ?_, (kb.trans k1).trans k2, by have := hgrow.size; simp; omega, s2, o3.set o', j3.other (by omega) o'⟩
  exact (KeepsFrom.of_grownBy (below_grown hbel) (by simp)).trans (((KeepsOthers.of_grownBy hgrow (fun k ob e ho => sb.kinds (.inl e) ho)).trans ((KeepsOthers.setCell _ _ _).trans (KeepsOthers.setCell _ _ _))).from _)

theorem del_fin {B0 g cap : Nat} {l : List (Es α)} {x : Es α} {o jv : Value} {Wa : World} (d : Int) (hw : w.heap.size = Bx) (hT : TE ≠ TI) (hka : Kp (SG TO TE TI TS sz cv w Bx a1 a2) (SF TO TE TI sz cv Bx) W Wa) (hkf : KeepsFrom B0 W Wa) (hga : SG TO TE TI TS sz cv w Bx a1 a2 W)
    (hsa : SJ TO TE TI sz cv Bx Wa (.slice (some ⟨g, 0, none⟩) (l.length + 1) cap) (l ++ [x])) (hoa : Boxed Wa (Bx + 2) 4 o) (hja : Boxed Wa (Bx + 3) 3 jv) :
    KeepsFrom B0 W (Wa.setCell ⟨g, l.length * 3 + 1, none⟩ (.int .i64 d)) ∧ Kp (SG TO TE TI TS sz cv w Bx a1 a2) (SF TO TE TI sz cv Bx) W (Wa.setCell ⟨g, l.length * 3 + 1, none⟩ (.int .i64 d)) ∧
      SG TO TE TI TS sz cv w Bx a1 a2 (Wa.setCell ⟨g, l.length * 3 + 1, none⟩ (.int .i64 d)) ∧ SJ TO TE TI sz cv Bx (Wa.setCell ⟨g, l.length * 3 + 1, none⟩ (.int .i64 d)) (.slice (some ⟨g, 0, none⟩) (l.length + 1) cap) (l ++ [⟨{ x.ed with del := d }, x.sl⟩]) ∧
      Boxed (Wa.setCell ⟨g, l.length * 3 + 1, none⟩ (.int .i64 d)) (Bx + 2) 4 o ∧ Boxed (Wa.setCell ⟨g, l.length * 3 + 1, none⟩ (.int .i64 d)) (Bx + 3) 3 jv := by
  obtain ⟨s1, k1⟩ := skp_del (TS := TS) (w := w) (a1 := a1) (a2 := a2) hw hT rfl hsa d
  have hk := hka.trans k1
  have hgb : Bx + 6 ≤ g := (hsa.lt (.inl rfl)).1
  exact ⟨hkf.trans ((KeepsOthers.setCell _ _ _).from _), hk, hk.1 hga, s1, hoa.kept (grown_setCell Wa g _ _) (fun e => by simp only [Option.some.injEq] at e; omega), hja.kept (grown_setCell Wa g _ _) (fun e => by simp only [Option.some.injEq] at e; omega)⟩

theorem ins_fin {B0 g cap t : Nat} {l : List (Es α)} {x : Es α} {o jv : Value} {Wa W3 : World} {z : α} {u : Value} (j' : Value) (hw : w.heap.size = Bx) (hT : TE ≠ TI) (hO : TO ≠ TI) (hka : Kp (SG TO TE TI TS sz cv w Bx a1 a2) (SF TO TE TI sz cv Bx) W Wa) (hkf : KeepsFrom B0 W Wa) (hga : SG TO TE TI TS sz cv w Bx a1 a2 W)
    (hx6 : Bx + 6 ≤ Wa.heap.size)
    (hsa : SJ TO TE TI sz cv Bx Wa (.slice (some ⟨g, 0, none⟩) (l.length + 1) cap) (l ++ [x])) (hoa : Boxed Wa (Bx + 2) 4 o) (hja : Boxed Wa (Bx + 3) 3 jv)
    (hgrow : (Wa.alloc (.cells (cv z).toArray t)).drew.grownBy W3 x.sl.ownBlock) (hown : W3.ownsRow (Bx + 6) TI sz u (x.ed.ins.length + 1) (x.ed.ins.flatMap cv ++ cv z)) (hnew : u.ownBlock = x.sl.ownBlock ∨ u.ownBlock = some (Wa.alloc (.cells (cv z).toArray t)).drew.heap.size) :
    (W3.frozen? ⟨g, l.length * 3 + 2, none⟩ = false ∧ (W3.cell? ⟨g, l.length * 3 + 2, none⟩) = some x.sl ∧ Boxed (W3.setCell ⟨g, l.length * 3 + 2, none⟩ u) (Bx + 3) 3 jv) ∧
    KeepsFrom B0 W ((W3.setCell ⟨g, l.length * 3 + 2, none⟩ u).setCell ⟨Bx + 3, 0, none⟩ j') ∧ Kp (SG TO TE TI TS sz cv w Bx a1 a2) (SF TO TE TI sz cv Bx) W ((W3.setCell ⟨g, l.length * 3 + 2, none⟩ u).setCell ⟨Bx + 3, 0, none⟩ j') ∧
      SG TO TE TI TS sz cv w Bx a1 a2 ((W3.setCell ⟨g, l.length * 3 + 2, none⟩ u).setCell ⟨Bx + 3, 0, none⟩ j') ∧ SJ TO TE TI sz cv Bx ((W3.setCell ⟨g, l.length * 3 + 2, none⟩ u).setCell ⟨Bx + 3, 0, none⟩ j') (.slice (some ⟨g, 0, none⟩) (l.length + 1) cap) (l ++ [⟨{ x.ed with ins := x.ed.ins ++ [z] }, u⟩]) ∧
      Boxed ((W3.setCell ⟨g, l.length * 3 + 2, none⟩ u).setCell ⟨Bx + 3, 0, none⟩ j') (Bx + 2) 4 o ∧ Boxed ((W3.setCell ⟨g, l.length * 3 + 2, none⟩ u).setCell ⟨Bx + 3, 0, none⟩ j') (Bx + 3) 3 j' := by
  obtain ⟨Wb, hWb⟩ : ∃ Wb, (Wa.alloc (.cells (cv z).toArray t)).drew = Wb := ⟨_, rfl⟩
  have hbel : Below Wa.heap.size Wa Wb := hWb ▸ below_drewN ((Below.refl _ Wa).alloc (Nat.le_refl _) _) 1
  rw [hWb] at hgrow hnew
  have sb := hsa.below hbel
  have kb := skp_below (TS := TS) (w := w) (a1 := a1) (a2 := a2) hw hx6 hsa hbel
  have ob := boxed_below hoa hbel
  have jb := boxed_below hja hbel
  have hgb : Bx + 6 ≤ g := (sb.lt (.inl rfl)).1
  have hsl : ∀ k, x.sl.ownBlock = some k → Bx + 6 ≤ k := fun k e => (sb.lt (.inr ⟨x, by simp, e⟩)).1
  have hsg : x.sl.ownBlock ≠ some g := eds_apart sb.eds hT (by simp) rfl
  have hxb : Bx + 6 ≤ Wb.heap.size := Nat.le_trans hx6 hbel.size
  have o3 := ob.kept hgrow (fun e => by have := hsl _ e.symm; omega)
  have j3 := jb.kept hgrow (fun e => by have := hsl _ e.symm; omega)
  obtain ⟨-, c2, -, f2⟩ := sb.last
  have hg3 : W3.heap[g]? = Wb.heap[g]? := hgrow.block g (sb.lt (.inl rfl)).2 (fun e => hsg e.symm)
  obtain ⟨s1, k1⟩ := skp_ins (TS := TS) (w := w) (a1 := a1) (a2 := a2) (more := [z]) hw hT hO rfl sb hxb hgrow (by simpa using hown) hnew
  have o4 := o3.kept (grown_setCell W3 g (l.length * 3 + 2) u) (fun e => by simp only [Option.some.injEq] at e; omega)
  have j4 := j3.kept (grown_setCell W3 g (l.length * 3 + 2) u) (fun e => by simp only [Option.some.injEq] at e; omega)
  have s2 := sj_box j' s1 (.inr rfl) j4
  have k2 := skp_box (TS := TS) (w := w) (a1 := a1) (a2 := a2) j' hw s1 (.inr rfl) j4
  have hk := ((hka.trans kb).trans k1).trans k2
  refine ⟨⟨(World.frozen?_of_block (a := ⟨g, _, none⟩) hg3).trans f2, (World.cell?_of_block (a := ⟨g, _, none⟩) hg3).trans c2, j4⟩, ?_, hk, hk.1 hga, s2, o4.other (by omega) j', j4.set j'⟩
  refine ((hkf.trans ((KeepsFrom.of_grownBy (below_grown hbel) (by simp)))).trans (((KeepsOthers.of_grownBy hgrow (fun k ob e ho => sb.kinds (.inr ⟨x, by simp, e⟩) ho)).trans ((KeepsOthers.setCell _ _ _).trans (KeepsOthers.setCell _ _ _))).from _))
end
end E
end Go.Proofs.Yteakiielcmgkeaa
