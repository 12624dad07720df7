/-
  The walks of layer 22: Words. By an AI agent.
-/
import Derived.Test.YthfpiomooomhoaaIter
namespace Go.Proofs.Ythfpiomooomhoaa
open Go.RowKit Go.Shelf

attribute [local go_sem] Oper.semAt_some

theorem boxed_below {W W' : World} {B : Nat} {t : TypeId} {v : Value} (h : Boxed W B t v) (hb : Below W.heap.size W W') : Boxed W' B t v := (hb.block B h.lt).trans h

theorem boxed_put {W : World} {B l : Nat} {t : TypeId} {v : Value} {o : Obj} (h : Boxed W B t v) (hl : W.heap[l]? = some o) (ho : o.isCells = false) (o' : Obj) : Boxed (W.putObj l o') B t v :=
  h.kept (grownBy_putObj' W l o') (fun e => by cases e; rw [show W.heap[B]? = _ from h] at hl; cases hl; cases ho)

theorem infoSpan : (Try.prog.info? 34).map (fun i => (i.zero, i.size, i.bytes)) = some (some (.agg #[.int .i64 0, .int .i64 0]), 2, 16) := by kernel_rfl

/-- The words so far. -/
def S.wf (gs : List S.G) (xs : List (S.Sp gs.length)) : List (Nat × Nat) := xs.filterMap fun x => if S.kd gs x.1.1 = 0 then none else some x.1
theorem S.wf_hit (gs : List S.G) (pre : List (S.Sp gs.length)) (x : S.Sp gs.length) (h : ¬ S.kd gs x.1.1 = 0) : S.wf gs (pre ++ [x]) = S.wf gs pre ++ [x.1] := by simp [S.wf, h]
theorem S.wf_miss (gs : List S.G) (pre : List (S.Sp gs.length)) (x : S.Sp gs.length) (h : S.kd gs x.1.1 = 0) : S.wf gs (pre ++ [x]) = S.wf gs pre := by simp [S.wf, h]
theorem S.wf_len (gs : List S.G) (pre : List (S.Sp gs.length)) : (S.wf gs pre).length ≤ pre.length := List.length_filterMap_le _ _

theorem own_keep {W W' : World} {base : Nat} {e : TypeId} {size : Nat} {v : Value} {k : Nat} {xs : List Value} (h : W.ownsRow base e size v k xs) (hb : Below W.heap.size W W') : W'.ownsRow base e size v k xs :=
  h.kept (below_grown hb) (by cases hv : v.ownBlock <;> simp)

theorem cell_two (w : World) (x y : Value) (t : TypeId) : ∀ j u, [x, y][j]? = some u → (w.alloc (.cells #[x, y] t)).cell? ((⟨w.heap.size, 0, none⟩ : Addr).add j) = some u := by
  intro j u hj
  match j, hj with
  | 0, hj => simp at hj; subst hj; simp [Addr.add]
  | 1, hj => simp at hj; subst hj; simp [Addr.add]

/-- A block of two cells. -/
def Two (W : World) (B : Nat) (x y : Value) : Prop := W.heap[B]? = some (.cells #[x, y] 34 (0, 0))
theorem Two.lt {W : World} {B : Nat} {x y : Value} (h : Two W B x y) : B < W.heap.size := (Array.getElem?_eq_some_iff.1 h).1
theorem Two.cell0 {W : World} {B : Nat} {x y : Value} (h : Two W B x y) : W.cell? ⟨B, 0, none⟩ = some x := by simp [World.cell?, show W.heap[B]? = _ from h]
theorem Two.cell1 {W : World} {B : Nat} {x y : Value} (h : Two W B x y) : W.cell? ⟨B, 1, none⟩ = some y := by simp [World.cell?, show W.heap[B]? = _ from h]
theorem Two.below {W W' : World} {B : Nat} {x y : Value} (h : Two W B x y) (hb : Below W.heap.size W W') : Two W' B x y := (hb.block B h.lt).trans h
theorem Two.alloc {W : World} {B : Nat} {x y : Value} (h : Two W B x y) (o : Obj) : Two (W.alloc o) B x y := h.below ((Below.refl _ _).alloc (Nat.le_refl _) _)
theorem Two.new (W : World) (x y : Value) : Two (W.alloc (.cells #[x, y] 34)) W.heap.size x y := World.alloc_heap_new W _
theorem two_own {β : Type} (B : Nat) (x y : Value) : Own (fun (_ : β) W => Two W B x y) := fun s X Y row hs hg hrow =>
  (hg.block B hs.lt (fun e' => by obtain ⟨o, ho, hc⟩ := hrow B e'.symm; rw [show X.heap[B]? = _ from hs] at ho; cases ho; cases hc)).trans hs

set_option maxRecDepth 100000 in
set_option maxHeartbeats 4000000 in
theorem words_in (A : Option Addr) (c B : Nat) (gs : List S.G) (w : World) (hr : Reads w B 3 A gs.length (gs.flatMap S.G.cells)) (hB : B ≤ w.heap.size) (hm : gs.length ≤ 8796093021952) (hs : ∀ g ∈ gs, g.t.size ≤ maxLen) :
    Calls Try.prog 14 #[.slice A gs.length c] w fun e W' => ∃ v, e = .returned v ∧ W'.ownsRow w.heap.size 34 2 v (S.words gs).length ((S.words gs).flatMap S.sc) ∧ Below w.heap.size w W' := by
  refine (callsIn_wide (n := 10)).1 ?_
  obtain ⟨i0, hi, hz0, hz1, hz2⟩ := info_parts infoSpan
  refine callsIn_of_wp_marks Try.func14 rfl trivial ?_ rfl
  simp only [Try.ntmps14, List.size_toArray, List.length_cons, List.length_nil, Nat.reduceAdd, Nat.reduceSub, Array.replicate_succ, Array.replicate_zero, List.push_toArray, List.append_toArray, List.nil_append, List.cons_append]
  gi_wp2_with (refine ⟨trivial, ?_⟩; gi_at_call 28; refine (spans_in _ _ _ _ _ _ _).mono ?_; rintro e w' ⟨rfl, rfl⟩)
  have bL := (((Boxed.new w 22 (.slice A gs.length c)).alloc (.cells #[.slice none 0 0] 28)).alloc (.cells #[.slice A gs.length c] 22)).alloc (.cells #[.func (.func 29) #[] #[.pointer (some ⟨w.heap.size, 0, none⟩)]] 46)
  have bO := ((Boxed.new (w.alloc (.cells #[.slice A gs.length c] 22)) 28 (.slice none 0 0)).alloc (.cells #[.slice A gs.length c] 22)).alloc (.cells #[.func (.func 29) #[] #[.pointer (some ⟨w.heap.size, 0, none⟩)]] 46)
  have bM := (Boxed.new ((w.alloc (.cells #[.slice A gs.length c] 22)).alloc (.cells #[.slice none 0 0] 28)) 22 (.slice A gs.length c)).alloc (.cells #[.func (.func 29) #[] #[.pointer (some ⟨w.heap.size, 0, none⟩)]] 46)
  have bT := Boxed.new (((w.alloc (.cells #[.slice A gs.length c] 22)).alloc (.cells #[.slice none 0 0] 28)).alloc (.cells #[.slice A gs.length c] 22)) 46 (.func (.func 29) #[] #[.pointer (some ⟨w.heap.size, 0, none⟩)])
  have hB0 : Below w.heap.size w ((((w.alloc (.cells #[.slice A gs.length c] 22)).alloc (.cells #[.slice none 0 0] 28)).alloc (.cells #[.slice A gs.length c] 22)).alloc (.cells #[.func (.func 29) #[] #[.pointer (some ⟨w.heap.size, 0, none⟩)]] 46)) := ((((Below.refl _ w).alloc (Nat.le_refl _) _).alloc (by simp) _).alloc (by simp; omega) _).alloc (by simp; omega) _
  have hsz : ((((w.alloc (.cells #[.slice A gs.length c] 22)).alloc (.cells #[.slice none 0 0] 28)).alloc (.cells #[.slice A gs.length c] 22)).alloc (.cells #[.func (.func 29) #[] #[.pointer (some ⟨w.heap.size, 0, none⟩)]] 46)).heap.size = w.heap.size + 4 := by simp
  simp only [World.size_alloc] at bL bO bM bT
  obtain ⟨W0, hW0⟩ : ∃ W0, (((w.alloc (.cells #[.slice A gs.length c] 22)).alloc (.cells #[.slice none 0 0] 28)).alloc (.cells #[.slice A gs.length c] 22)).alloc (.cells #[.func (.func 29) #[] #[.pointer (some ⟨w.heap.size, 0, none⟩)]] 46) = W0 := ⟨_, rfl⟩
  rw [hW0] at bL bO bM bT hB0 hsz
  rw [hW0]
  clear hW0
  obtain ⟨Bx, hBx⟩ : ∃ Bx, w.heap.size = Bx := ⟨_, rfl⟩
  rw [hBx] at bL bO bM bT hB0 hsz hB ⊢
  have hG1 : ∀ W : World, (Boxed W Bx 22 (.slice A gs.length c) ∧ Boxed W (Bx + 1 + 1) 22 (.slice A gs.length c) ∧ Boxed W (Bx + 1 + 1 + 1) 46 (.func (.func 29) #[] #[.pointer (some ⟨Bx, 0, none⟩)]) ∧ Below Bx w W) → Boxed W (Bx + 1 + 1) 22 (.slice A gs.length c) ∧ Boxed W (Bx + 1 + 1 + 1) 46 (.func (.func 29) #[] #[.pointer (some ⟨Bx, 0, none⟩)]) := fun W h => ⟨h.2.1, h.2.2.1⟩
  have hG2 : ∀ W W' : World, Below W.heap.size W W' → (Boxed W Bx 22 (.slice A gs.length c) ∧ Boxed W (Bx + 1 + 1) 22 (.slice A gs.length c) ∧ Boxed W (Bx + 1 + 1 + 1) 46 (.func (.func 29) #[] #[.pointer (some ⟨Bx, 0, none⟩)]) ∧ Below Bx w W) → (Boxed W' Bx 22 (.slice A gs.length c) ∧ Boxed W' (Bx + 1 + 1) 22 (.slice A gs.length c) ∧ Boxed W' (Bx + 1 + 1 + 1) 46 (.func (.func 29) #[] #[.pointer (some ⟨Bx, 0, none⟩)]) ∧ Below Bx w W') := fun W W' hb h =>
    ⟨boxed_below h.1 hb, boxed_below h.2.1 hb, boxed_below h.2.2.1 hb, h.2.2.2.trans (hb.mono (hBx ▸ h.2.2.2.size))⟩
  have hTg : ∀ (i : Nat) (W : World), (Boxed W Bx 22 (.slice A gs.length c) ∧ Boxed W (Bx + 1 + 1) 22 (.slice A gs.length c) ∧ Boxed W (Bx + 1 + 1 + 1) 46 (.func (.func 29) #[] #[.pointer (some ⟨Bx, 0, none⟩)]) ∧ Below Bx w W) → 1 ≤ i → i < gs.length → Calls Try.prog 29 #[.int .i64 i, .pointer (some ⟨Bx, 0, none⟩)] W fun e W' => e = .returned (.bool (S.tgW gs i)) ∧ Below W.heap.size W W' := by
    intro i W h h1 hi
    have hsW : Bx ≤ W.heap.size := hBx ▸ h.2.2.2.size
    exact words1_any Bx A c B gs W i h.1.cell h.1.lt (hr.below h.2.2.2 hB) (Nat.le_trans hB hsW) (by unfold maxLen; omega) hs h1 hi
  refine wpIn_rangeFunc_ownH rfl (by decide) (gf := 40) (lb := #[.pointer (some ⟨Bx + 1 + 1, 0, none⟩), .pointer (some ⟨Bx + 1 + 1 + 1, 0, none⟩)]) rfl trivial (enters_of Try.func40 (by kernel_rfl) rfl)
    (spans_stops_29 9 (by decide) (Bx + 1 + 1) (Bx + 1 + 1 + 1) Bx A c gs.length (by omega) (S.tgW gs) _ hG1 hG2 hTg W0 ⟨bL, bM, bT, hB0⟩) (fun h k => fun g => k (h g)) ?hkb (Below.refl _ _) (fun _ => rfl)
    (fun pre W => ((Boxed W Bx 22 (.slice A gs.length c) ∧ Boxed W (Bx + 1 + 1) 22 (.slice A gs.length c) ∧ Boxed W (Bx + 1 + 1 + 1) 46 (.func (.func 29) #[] #[.pointer (some ⟨Bx, 0, none⟩)]) ∧ Below Bx w W)) ∧ ∃ v, Boxed W (Bx + 1) 28 v ∧ W.ownsRow Bx 34 2 v (S.wf gs pre).length ((S.wf gs pre).flatMap S.sc) ∧ True)
    (fun _ _ _ => False)
    (OwnFrom.and (OwnFrom.and (Own.from (boxed_own _ _ (fun _ => _)) _) (OwnFrom.and (Own.from (boxed_own _ _ (fun _ => _)) _) (OwnFrom.and (Own.from (boxed_own _ _ (fun _ => _)) _) (ownFrom_below (by omega) (by omega))))) (Own.from (holdsRow_own Bx (Bx + 1) 28 34 2 (fun pre => (S.wf gs pre).length) (fun pre => (S.wf gs pre).flatMap S.sc) (fun _ _ => True)) _))
    (fun _ _ _ _ _ hs _ _ => hs)
    ⟨⟨bL, bM, bT, hB0⟩, _, bO, World.ownsRow_nil _ _ _ _, trivial⟩
    (fun x a' W => ∃ By, Bx + 1 + 1 + 1 < By ∧ Two W By (.int .i64 x.1.1) (.int .i64 x.1.2) ∧ a' = { tmps := #[.slice A gs.length c, .pointer (some ⟨Bx, 0, none⟩), .slice none 0 0, .pointer (some ⟨Bx + 1, 0, none⟩), .pointer (some ⟨By, 0, none⟩), .slice A gs.length c, .func (.func 29) #[] #[.pointer (some ⟨Bx, 0, none⟩)], .func (.func 40) #[] #[.pointer (some ⟨Bx + 1 + 1, 0, none⟩), .pointer (some ⟨Bx + 1 + 1 + 1, 0, none⟩)], .agg #[.int .i64 x.1.1, .int .i64 x.1.2], undef, undef, undef, undef, undef, undef, undef, undef, undef, undef, undef, undef], defers := [] })
    (fun x a' _ X Y row hs hg hr => by obtain ⟨By, h1, h2, h3⟩ := hs; exact ⟨By, h1, two_own By _ _ () X Y row h2 hg (fun r e => (hr r e).2), h3⟩)
    ?assign ?body ?done ?stop
  case hkb =>
    rintro W l o o' hl ho hc hw ⟨g1, g2, g3, g4⟩
    exact ⟨boxed_put g1 ho hc o', boxed_put g2 ho hc o', boxed_put g3 ho hc o', g4.trans (belowK_b (w := W0) (by omega) W l o o' hl ho hc hw)⟩
  case assign =>
    rintro l pre x W K hi hK
    obtain ⟨⟨g1, g2, g3, g4⟩, v, hv, hrow, -⟩ := hi
    have hsW : Bx ≤ W.heap.size := hBx ▸ g4.size
    dsimp only [S.sv]
    gi_wp2
    exact hK _ _ ((KeepsOthers.alloc _ _).from _) (fun _ => ⟨g1.alloc _, g2.alloc _, g3.alloc _, g4.alloc hsW _⟩) ⟨⟨g1.alloc _, g2.alloc _, g3.alloc _, g4.alloc hsW _⟩, v, hv.alloc _, hrow.alloc _, trivial⟩ ⟨W.heap.size, g3.lt, Two.new W _ _, rfl⟩
  case body =>
    rintro l pre x a' W hl ⟨r, hrl⟩ ⟨⟨g1, g2, g3, g4⟩, v, hv, hrow, -⟩ ⟨By, hBy, bX, rfl⟩ hlt
    have hsW : Bx ≤ W.heap.size := hBx ▸ g4.size
    have hxb := x.2
    have hxn : x.1.1 < gs.length := by omega
    have hlen : pre.length < gs.length := Nat.lt_of_lt_of_le hlt (S.spans_length _ _ _)
    have hwl := S.wf_len gs pre
    have cL := g1.cell
    have x0 := bX.cell0
    obtain ⟨b, off, hA, hlo, hc⟩ := (hr.below g4 hB).glyphD (by omega)
    subst hA
    obtain ⟨c0, c1, c2⟩ := hc x.1.1 hxn
    have sx := sizeD hs hxn
    have q2 : ((x.1.1 : Nat) : Int) < (gs.length : Int) := by omega
    have HK : S.kd gs x.1.1 = S.kind (gs.getD x.1.1 default).t := rfl
    have hhit := S.wf_hit gs pre x
    have hmiss := S.wf_miss gs pre x
    rw [HK] at hhit hmiss
    have hfr : ∀ w1 : World, Below W.heap.size W w1 → (Boxed w1 Bx 22 (.slice (some ⟨b, off, none⟩) gs.length c) ∧ Boxed w1 (Bx + 1 + 1) 22 (.slice (some ⟨b, off, none⟩) gs.length c) ∧ Boxed w1 (Bx + 1 + 1 + 1) 46 (.func (.func 29) #[] #[.pointer (some ⟨Bx, 0, none⟩)]) ∧ Below Bx w w1) ∧ Boxed w1 (Bx + 1) 28 v ∧ w1.ownsRow Bx 34 2 v (S.wf gs pre).length ((S.wf gs pre).flatMap S.sc) ∧ Two w1 By (.int .i64 x.1.1) (.int .i64 x.1.2) ∧ KeepsFrom W0.heap.size W w1 := fun w1 hb =>
      ⟨⟨boxed_below g1 hb, boxed_below g2 hb, boxed_below g3 hb, g4.trans (hb.mono hsW)⟩, boxed_below hv hb, own_keep hrow hb, bX.below hb, KeepsFrom.of_grownBy (below_grown hb) (by simp)⟩
    have hkind := kind_any (gs.getD x.1.1 default).t (gs.getD x.1.1 default).wd (gs.getD x.1.1 default).st W sx
    clear hc hr hs
    generalize gs.getD x.1.1 default = g at *
    by_cases hk : S.kind g.t = 0
    · have hkb : (((S.kind g.t : Nat) : Int) == 0) = true := beq_iff_eq.2 (by omega)
      gi_wp2_with (refine ⟨trivial, ?_⟩; gi_at_call 30; refine (CallsIn.inRound l (callsIn_wide.2 hkind)).mono ?_; rintro e w1 ⟨rfl, hb1⟩)
      obtain ⟨g', hv1, hr1, hX1, hK1⟩ := hfr w1 hb1
      exact ⟨hK1, fun _ => g', g', v, hv1, by rw [hmiss hk]; exact hr1, trivial⟩
    · have hkb : (((S.kind g.t : Nat) : Int) == 0) = false := beq_eq_false_iff_ne.2 (by omega)
      gi_wp2_with (first
        | (refine ⟨trivial, ?_⟩; gi_at_call 30; refine (CallsIn.inRound l (callsIn_wide.2 hkind)).mono ?_; clear hkind; rintro e w1 ⟨rfl, hb1⟩; obtain ⟨g', hv1, hr1, hX1, hK1⟩ := hfr w1 hb1; have hsz1 : Bx ≤ w1.heap.size := hBx ▸ g'.2.2.2.size; have co := hv1.cell; have fo := hv1.frozen; have y0 := hX1.cell0; have y1 := hX1.cell1)
        | (gi_at_builtin; refine wpListIn_append_own _ rfl _ _ 28 rfl Bx 34 i0 _ 2 16 Try.underlying28 hi hz0 hz1 hz2 rfl (by decide) _ _ _ rfl (hr1.alloc _) ⟨w1.heap.size, 0, none⟩ 1 1 [.int .i64 x.1.1, .int .i64 x.1.2] rfl rfl (cell_two _ _ _ _) (by simp [Value.oneCell']) (by unfold maxLen; omega) (by omega) (by simp; omega) ?_; intro v' w2 hown' hgrow _; obtain ⟨gg, cap', rfl⟩ := ownsRow_succ hown'; obtain ⟨hv2, hv3, hr2, hk2, hb2⟩ := hv1.appended (by decide) hr1 hsz1 (by omega) hown' hgrow; have hc2 := hv2.cell; have hf2 := hv2.frozen))
      have k1 : ∀ (B : Nat) (t : TypeId) (u : Value), t ≠ 34 → B ≠ Bx + 1 → Boxed w1 B t u → Boxed (w2.setCell ⟨Bx + 1, 0, none⟩ (.slice (some ⟨gg, 0, none⟩) ((S.wf gs pre).length + 1) cap')) B t u := fun B t u ht hne h => ((h.alloc _).kept hgrow (h.not_row ht hr1)).other hne _
      obtain ⟨u1, u2, u3, u4⟩ := g'
      have g'' := And.intro (k1 _ _ _ (by decide) (by omega) u1) (And.intro (k1 _ _ _ (by decide) (by omega) u2) (And.intro (k1 _ _ _ (by decide) (by omega) u3) (u4.trans hb2)))
      exact ⟨hK1.trans (hk2.from _), fun _ => g'', g'', _, hv3, by rw [hhit hk]; simpa [S.sc] using hr2, trivial⟩
  case done =>
    rintro D ys W hD rfl ⟨⟨g1, g2, g3, g4⟩, v, hv, hrow, -⟩ hK
    have hc := hv.cell
    gi_wp2
    refine ⟨by simp, .inl ⟨_, _, rfl, run_takeDeferred hK, ?_⟩⟩
    refine ⟨_, results_tmp rfl _ _ _, v, rfl, ?_⟩
    rw [hBx]
    exact ⟨ownsRow_putObj hrow _ hK rfl, g4.trans (belowK_b (w := w) (by omega) W D _ _ (by omega) hK rfl rfl)⟩
  case stop =>
    rintro D c pre W _ _ h _
    exact h.elim
end Go.Proofs.Ythfpiomooomhoaa
