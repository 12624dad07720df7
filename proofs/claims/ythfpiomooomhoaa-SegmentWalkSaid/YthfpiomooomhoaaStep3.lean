/-
  The walks of layer 22: Previous. By an AI agent.
-/
import Derived.Test.YthfpiomooomhoaaStep2
namespace Go.Proofs.Ythfpiomooomhoaa
open Go.RowKit Go.Shelf

attribute [local go_sem] Oper.semAt_some

theorem Two.kept {W W' : World} {B : Nat} {x y : Value} {row : Option Nat} (h : Two W B x y) (hg : W.grownBy W' row) (hr : some B ≠ row) : Two W' B x y := (hg.block B h.lt hr).trans h
theorem grownBy_setCellO (W : World) (b o : Nat) (v : Value) : W.grownBy (W.setCell ⟨b, o, none⟩ v) (some b) :=
  ⟨rfl, rfl, rfl, (KeepsWalks.setCell W _ v).size, fun k _ hk => Below.heap_setCell _ _ _ k (fun e => hk (by rw [e]))⟩
theorem two_put {W : World} {B l : Nat} {x y : Value} {o : Obj} (h : Two W B x y) (hl : W.heap[l]? = some o) (ho : o.isCells = false) (o' : Obj) : Two (W.putObj l o') B x y :=
  h.kept (grownBy_putObj' W l o') (fun e => by cases e; rw [show W.heap[B]? = _ from h] at hl; cases hl; cases ho)
theorem Two.set {W : World} {B : Nat} {x y : Value} (h : Two W B x y) (x' y' : Value) : Two ((W.setCell ⟨B, 0, none⟩ x').setCell ⟨B, 1, none⟩ y') B x' y' := by
  unfold Two at *
  have h1 : (W.setCell ⟨B, 0, none⟩ x').heap[B]? = some (.cells #[x', y] 34 (0, 0)) := by simp [World.setCell, Array.getElem?_modify, h]
  have h2 : ((W.setCell ⟨B, 0, none⟩ x').setCell ⟨B, 1, none⟩ y').heap[B]? = some (.cells #[x', y'] 34 (0, 0)) := by
    generalize W.setCell ⟨B, 0, none⟩ x' = W1 at *
    simp [World.setCell, Array.getElem?_modify, h1]
  exact h2
theorem Two.frozen0 {W : World} {B : Nat} {x y : Value} (h : Two W B x y) : W.frozen? ⟨B, 0, none⟩ = false := by simp [World.frozen?, show W.heap[B]? = _ from h]
theorem Two.frozen1 {W : World} {B : Nat} {x y : Value} (h : Two W B x y) : W.frozen? ⟨B, 1, none⟩ = false := by simp [World.frozen?, show W.heap[B]? = _ from h]

/-- What the loop over the spans keeps, besides the results' cells. -/
def S.PG (w : World) (Bx : Nat) (A : Option Addr) (n c : Nat) (at_ : Int) (W : World) : Prop :=
  Boxed W Bx 3 (.int .i64 at_) ∧ Boxed W (Bx + 1 + 1 + 1) 28 (.slice A n c) ∧ Below Bx w W

set_option maxRecDepth 100000 in
set_option maxHeartbeats 4000000 in
theorem prev_any (at_ : Int) (A : Option Addr) (c B : Nat) (l : List (Int × Int)) (w : World) (hr : Reads w B 2 A l.length (l.flatMap S.zc)) (hB : B ≤ w.heap.size) (hm : l.length ≤ 1000000) :
    Calls Try.prog 25 #[.slice A l.length c, .int .i64 at_] w fun e w' => e = .returned (.tuple #[S.zv (S.prev l at_).1, .bool (S.prev l at_).2]) ∧ Below w.heap.size w w' := by
  refine (callsIn_wide (n := 10)).1 ?_
  refine callsIn_of_wp_marks Try.func25 rfl trivial ?_ rfl
  simp only [Try.ntmps25, List.size_toArray, List.length_cons, List.length_nil, Nat.reduceAdd, Nat.reduceSub, Array.replicate_succ, Array.replicate_zero, List.push_toArray, List.append_toArray, List.nil_append, List.cons_append]
  gi_wp2_with (refine ⟨trivial, ?_⟩; gi_at_call 39; refine (back_in _ _ _ _ _).mono ?_; rintro e w' ⟨rfl, rfl⟩)
  have bX := (((Boxed.new w 3 (.int .i64 at_)).alloc (.cells #[.int .i64 0, .int .i64 0] 34)).alloc (.cells #[.bool false] 4)).alloc (.cells #[.slice A l.length c] 28)
  have bR := ((Two.new (w.alloc (.cells #[.int .i64 at_] 3)) (.int .i64 0) (.int .i64 0)).alloc (.cells #[.bool false] 4)).alloc (.cells #[.slice A l.length c] 28)
  have bO := (Boxed.new ((w.alloc (.cells #[.int .i64 at_] 3)).alloc (.cells #[.int .i64 0, .int .i64 0] 34)) 4 (.bool false)).alloc (.cells #[.slice A l.length c] 28)
  have bS := Boxed.new (((w.alloc (.cells #[.int .i64 at_] 3)).alloc (.cells #[.int .i64 0, .int .i64 0] 34)).alloc (.cells #[.bool false] 4)) 28 (.slice A l.length c)
  have hB0 : Below w.heap.size w ((((w.alloc (.cells #[.int .i64 at_] 3)).alloc (.cells #[.int .i64 0, .int .i64 0] 34)).alloc (.cells #[.bool false] 4)).alloc (.cells #[.slice A l.length c] 28)) := ((((Below.refl _ w).alloc (Nat.le_refl _) _).alloc (by simp) _).alloc (by simp <;> omega) _).alloc (by simp <;> omega) _
  have hsz : ((((w.alloc (.cells #[.int .i64 at_] 3)).alloc (.cells #[.int .i64 0, .int .i64 0] 34)).alloc (.cells #[.bool false] 4)).alloc (.cells #[.slice A l.length c] 28)).heap.size = w.heap.size + 4 := by simp
  simp only [World.size_alloc] at bX bR bO bS
  obtain ⟨W0, hW0⟩ : ∃ W0, (((w.alloc (.cells #[.int .i64 at_] 3)).alloc (.cells #[.int .i64 0, .int .i64 0] 34)).alloc (.cells #[.bool false] 4)).alloc (.cells #[.slice A l.length c] 28) = W0 := ⟨_, rfl⟩
  rw [hW0] at bX bR bO bS hB0 hsz
  rw [hW0]
  clear hW0
  obtain ⟨Bx, hBx⟩ : ∃ Bx, w.heap.size = Bx := ⟨_, rfl⟩
  rw [hBx] at bX bR bO bS hB0 hsz hB ⊢
  have hG1 : ∀ W : World, S.PG w Bx A l.length c at_ W → Boxed W (Bx + 1 + 1 + 1) 28 (.slice A l.length c) ∧ Reads W B 2 A l.length (l.flatMap S.zc) := fun W h => ⟨h.2.1, hr.below h.2.2 hB⟩
  have hG2 : ∀ W W' : World, Below W.heap.size W W' → S.PG w Bx A l.length c at_ W → S.PG w Bx A l.length c at_ W' := fun W W' hb h => ⟨boxed_below h.1 hb, boxed_below h.2.1 hb, h.2.2.trans (hb.mono (hBx ▸ h.2.2.size))⟩
  refine wpIn_rangeFunc_ownH rfl (by decide) (gf := 42) (lb := #[.pointer (some ⟨Bx + 1 + 1 + 1, 0, none⟩)]) rfl trivial (enters_of Try.func42 (by kernel_rfl) rfl)
    (back_stops 9 (by decide) (Bx + 1 + 1 + 1) A c B l hm _ hG1 hG2 W0 ⟨bX, bS, hB0⟩) (fun h k => fun g => k (h g)) ?hkb (Below.refl _ _) (fun _ => rfl)
    (fun pre W => S.PG w Bx A l.length c at_ W ∧ Two W (Bx + 1) (.int .i64 0) (.int .i64 0) ∧ Boxed W (Bx + 1 + 1) 4 (.bool false) ∧ ∀ y ∈ pre, at_ ≤ (l.getD y (0, 0)).1)
    (fun cd pre W => cd = .ret ∧ ∃ (pre' : List Nat) (x : Nat), pre = pre' ++ [x] ∧ (∀ y ∈ pre', at_ ≤ (l.getD y (0, 0)).1) ∧ (l.getD x (0, 0)).1 < at_ ∧ Two W (Bx + 1) (.int .i64 (l.getD x (0, 0)).1) (.int .i64 (l.getD x (0, 0)).2) ∧ Boxed W (Bx + 1 + 1) 4 (.bool true) ∧ Below Bx w W)
    ?hI ?hIx
    ⟨⟨bX, bS, hB0⟩, bR, bO, fun y hy => by cases hy⟩
    (fun x a' W => ∃ By, Bx + 1 + 1 + 1 < By ∧ Two W By (.int .i64 (l.getD x (0, 0)).1) (.int .i64 (l.getD x (0, 0)).2) ∧ a' = { tmps := #[.slice A l.length c, .int .i64 at_, undef, .pointer (some ⟨Bx, 0, none⟩), .pointer (some ⟨Bx + 1, 0, none⟩), .pointer (some ⟨Bx + 1 + 1, 0, none⟩), undef, .pointer (some ⟨By, 0, none⟩), .slice A l.length c, .func (.func 42) #[] #[.pointer (some ⟨Bx + 1 + 1 + 1, 0, none⟩)], .int .i64 x, .agg #[.int .i64 (l.getD x (0, 0)).1, .int .i64 (l.getD x (0, 0)).2], undef, undef, undef, undef, undef, undef], defers := [] })
    (fun x a' _ X Y row hs hg hr => by obtain ⟨By, h1, h2, h3⟩ := hs; exact ⟨By, h1, two_own By _ _ () X Y row h2 hg (fun r e => (hr r e).2), h3⟩)
    ?assign ?body ?done ?stop
  case hkb =>
    rintro W lam o o' hl ho hc hw ⟨g1, g2, g3⟩
    exact ⟨boxed_put g1 ho hc o', boxed_put g2 ho hc o', g3.trans (belowK_b (w := W0) (by omega) W lam o o' hl ho hc hw)⟩
  case hI =>
    unfold S.PG
    exact OwnFrom.and (OwnFrom.and (Own.from (boxed_own _ _ (fun _ => _)) _) (OwnFrom.and (Own.from (boxed_own _ _ (fun _ => _)) _) (ownFrom_below (by omega) (by omega)))) (OwnFrom.and (Own.from (two_own _ _ _) _) (OwnFrom.and (Own.from (boxed_own _ _ (fun _ => _)) _) (ownFrom_pure _ _)))
  case hIx =>
    rintro cd pre X Y row ⟨rfl, pre', x, e, h1, h2, h3, h4, h5⟩ hg hr
    exact ⟨rfl, pre', x, e, h1, h2, two_own _ _ _ () X Y row h3 hg (fun r e => (hr r e).2), boxed_own _ _ (fun _ => _) () X Y row h4 hg (fun r e => (hr r e).2), (ownFrom_below (β := Unit) (w₀ := w) (n₀ := Bx) (B := W0.heap.size) (by omega) (by omega)) () X Y row h5 hg hr⟩
  case assign =>
    rintro lam pre x W K ⟨⟨g1, g2, g3⟩, hR2, hO, hpre⟩ hK
    have hsW : Bx ≤ W.heap.size := hBx ▸ g3.size
    dsimp only [S.be]
    generalize l.getD x (0, 0) = g at *
    gi_wp2
    exact hK _ _ ((KeepsOthers.alloc _ _).from _) (fun _ => ⟨g1.alloc _, g2.alloc _, g3.alloc hsW _⟩) ⟨⟨g1.alloc _, g2.alloc _, g3.alloc hsW _⟩, hR2.alloc _, hO.alloc _, hpre⟩ ⟨W.heap.size, g2.lt, Two.new W _ _, rfl⟩
  case body =>
    rintro lam pre x a' W hl ⟨r, hrl⟩ ⟨⟨g1, g2, g3⟩, hR2, hO, hpre⟩ ⟨By, hBy, bY, rfl⟩ hlt
    have hsW : Bx ≤ W.heap.size := hBx ▸ g3.size
    have c1 := g1.cell
    have y0 := bY.cell0
    have y1 := bY.cell1
    have r0 := hR2.cell0
    have r1 := hR2.cell1
    have f0 := hR2.frozen0
    have f1 := hR2.frozen1
    have o0 := hO.cell
    have fo := hO.frozen
    have HP := Lib.hid hpre
    clear hpre hr
    by_cases h0 : (l.getD x (0, 0)).1 < at_
    · generalize hg : l.getD x (0, 0) = g at *
      have HG := Lib.hid hg
      clear hg
      gi_wp2
      refine ⟨(((KeepsOthers.setCell _ _ _).trans (KeepsOthers.setCell _ _ _)).trans (KeepsOthers.setCell _ _ _)).from _, rfl, pre, x, rfl, HP.out, ?_, ?_, ?_, ?_⟩
      · rw [HG.out]; exact h0
      · rw [HG.out]; exact (hR2.set _ _).kept (grownBy_setCell' _ _ _) (by simp)
      · exact ((hO.other (by omega) _).kept (grownBy_setCellO _ _ _ _) (by simp)).set _
      · exact ((g3.setCell (by simp <;> omega) _).setCell (by simp <;> omega) _).setCell (by simp <;> omega) _
    · generalize hg : l.getD x (0, 0) = g at *
      have HG := Lib.hid hg
      clear hg
      gi_wp2
      refine ⟨KeepsFrom.refl _ _, fun h => h, ⟨g1, g2, g3⟩, hR2, hO, fun y hy => ?_⟩
      rcases List.mem_append.1 hy with hy | hy
      · exact HP.out y hy
      · simp at hy; subst hy; show at_ ≤ (l.getD y (0, 0)).1; rw [HG.out]; omega
  case done =>
    rintro D ys W hD rfl ⟨⟨g1, g2, g3⟩, hR2, hO, hall⟩ hK
    have r0 := hR2.cell0
    have r1 := hR2.cell1
    have f0 := hR2.frozen0
    have f1 := hR2.frozen1
    have o0 := hO.cell
    have fo := hO.frozen
    have HP := Lib.hid hall
    clear hall hr
    gi_wp2
    have hP : S.prev l at_ = ((0, 0), false) := S.prev_done l at_ _ HP.out
    have hR3 := (hR2.set (.int .i64 0) (.int .i64 0)).kept (grownBy_setCell' _ (Bx + 1 + 1) (.bool false)) (by simp)
    have hO3 := ((hO.other (B' := Bx + 1) (by omega) (.int .i64 0)).kept (grownBy_setCellO _ (Bx + 1) 1 (.int .i64 0)) (by simp)).set (.bool false)
    have hB3 := ((g3.setCell (p := ⟨Bx + 1, 0, none⟩) (by simp <;> omega) (.int .i64 0)).setCell (p := ⟨Bx + 1, 1, none⟩) (by simp <;> omega) (.int .i64 0)).setCell (p := ⟨Bx + 1 + 1, 0, none⟩) (by simp <;> omega) (.bool false)
    have hK3 := (((KeepsOthers.setCell W ⟨Bx + 1, 0, none⟩ (.int .i64 0)).trans (KeepsOthers.setCell _ ⟨Bx + 1, 1, none⟩ (.int .i64 0))).trans (KeepsOthers.setCell _ ⟨Bx + 1 + 1, 0, none⟩ (.bool false))).same D _ hK rfl
    generalize ((W.setCell ⟨Bx + 1, 0, none⟩ (.int .i64 0)).setCell ⟨Bx + 1, 1, none⟩ (.int .i64 0)).setCell ⟨Bx + 1 + 1, 0, none⟩ (.bool false) = W3 at *
    refine ⟨by simp, .inl ⟨_, _, rfl, run_takeDeferred hK3, ?_⟩⟩
    have t1 := two_put hR3 hK3 rfl (.deferred none)
    have t2 := boxed_put hO3 hK3 rfl (.deferred none)
    have hB4 := hB3.trans (belowK_b (w := w) (by omega) W3 D _ (.deferred none) (by omega) hK3 rfl rfl)
    have a0 := t1.cell0
    have a1 := t1.cell1
    have a2 := t2.cell
    refine ⟨.tuple #[S.zv (0, 0), .bool false], by simp [results, Try.results25, go_sem, S.zv, a0, a1, a2], by rw [hP], ?_⟩
    rw [hBx]
    exact hB4
  case stop =>
    rintro D cd pre W hD hpre ⟨rfl, pre', x, rfl, h1, h2, h3, h4, h5⟩ hK
    have hP : S.prev l at_ = (l.getD x (0, 0), true) := S.prev_stop l at_ _ pre' x hpre h1 h2
    clear hpre h1 h2
    generalize l.getD x (0, 0) = g at *
    have HP := Lib.hid hP
    clear hP
    gi_wp2
    refine ⟨by simp, .inl ⟨_, _, rfl, run_takeDeferred hK, ?_⟩⟩
    have t1 := two_put h3 hK rfl (.deferred none)
    have t2 := boxed_put h4 hK rfl (.deferred none)
    have hB4 := h5.trans (belowK_b (w := w) (by omega) W D _ (.deferred none) (by omega) hK rfl rfl)
    have a0 := t1.cell0
    have a1 := t1.cell1
    have a2 := t2.cell
    refine ⟨.tuple #[S.zv g, .bool true], by simp [results, Try.results25, go_sem, S.zv, a0, a1, a2], by rw [HP.out], ?_⟩
    rw [hBx]
    exact hB4
end Go.Proofs.Ythfpiomooomhoaa
