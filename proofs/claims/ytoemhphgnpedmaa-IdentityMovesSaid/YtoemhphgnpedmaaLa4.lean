/-
  The statements of layer 30: IdentityLikeness. By an AI agent.
-/
import Derived.Deep.RegionHeld3
import Derived.Test.YtoemhphgnpedmaaAwk
import Derived.Test.YtoemhphgnpedmaaLk3
import Derived.Test.YtoemhphgnpedmaaOpenI
namespace Go.Proofs.Ytoemhphgnpedmaa
open Go.RowKit

/-- Two regions in their boxes. -/
def I.Two (N : Nat) (a b : I.Rg) (w W : World) : Prop := W.cell? ⟨N, 0, none⟩ = some (.int .i64 a.kind) ∧ W.cell? ⟨N, 1, none⟩ = some (.int .i64 a.id) ∧ W.cell? ⟨N, 2, none⟩ = some (.int .i64 a.parent) ∧ W.cell? ⟨N, 3, none⟩ = some (.int .i64 a.top) ∧ W.cell? ⟨N, 4, none⟩ = some (.int .i64 a.left) ∧ W.cell? ⟨N, 5, none⟩ = some (.int .i64 a.bottom) ∧ W.cell? ⟨N, 6, none⟩ = some (.int .i64 a.right) ∧ W.cell? ⟨N, 7, none⟩ = some (.string a.label) ∧ W.cell? ⟨(N + 1), 0, none⟩ = some (.int .i64 b.kind) ∧ W.cell? ⟨(N + 1), 1, none⟩ = some (.int .i64 b.id) ∧ W.cell? ⟨(N + 1), 2, none⟩ = some (.int .i64 b.parent) ∧ W.cell? ⟨(N + 1), 3, none⟩ = some (.int .i64 b.top) ∧ W.cell? ⟨(N + 1), 4, none⟩ = some (.int .i64 b.left) ∧ W.cell? ⟨(N + 1), 5, none⟩ = some (.int .i64 b.bottom) ∧ W.cell? ⟨(N + 1), 6, none⟩ = some (.int .i64 b.right) ∧ W.cell? ⟨(N + 1), 7, none⟩ = some (.string b.label) ∧ Below N w W ∧ N + 1 < W.heap.size
theorem I.Two.below {N : Nat} {a b : I.Rg} {w W W' : World} (h : I.Two N a b w W) (hb : Below W.heap.size W W') : I.Two N a b w W' := by
  obtain ⟨x0, x1, x2, x3, x4, x5, x6, x7, y0, y1, y2, y3, y4, y5, y6, y7, hb0, hz⟩ := h
  have k0 := fun o => hb.cell (p := ⟨N, o, none⟩) (show N < W.heap.size by omega)
  have k1 := fun o => hb.cell (p := ⟨N + 1, o, none⟩) hz
  have hn : N ≤ W.heap.size := by omega
  exact ⟨(k0 0).trans x0, (k0 1).trans x1, (k0 2).trans x2, (k0 3).trans x3, (k0 4).trans x4, (k0 5).trans x5, (k0 6).trans x6, (k0 7).trans x7, (k1 0).trans y0, (k1 1).trans y1, (k1 2).trans y2, (k1 3).trans y3, (k1 4).trans y4, (k1 5).trans y5, (k1 6).trans y6, (k1 7).trans y7, hb0.trans (hb.mono hn), Nat.lt_of_lt_of_le hz hb.size⟩

theorem I.Two.new (a b : I.Rg) (w : World) : I.Two w.heap.size a b w ((w.alloc (.cells a.cells.toArray 27)).alloc (.cells b.cells.toArray 27)) := by
  have h := I.two_cells (Below.refl _ ((w.alloc (.cells a.cells.toArray 27)).alloc (.cells b.cells.toArray 27)))
  exact ⟨h.1 0 _ rfl, h.1 1 _ rfl, h.1 2 _ rfl, h.1 3 _ rfl, h.1 4 _ rfl, h.1 5 _ rfl, h.1 6 _ rfl, h.1 7 _ rfl, h.2 0 _ rfl, h.2 1 _ rfl, h.2 2 _ rfl, h.2 3 _ rfl, h.2 4 _ rfl, h.2 5 _ rfl, h.2 6 _ rfl, h.2 7 _ rfl, ((Below.refl _ w).alloc (Nat.le_refl _) _).alloc (by simp) _, by simp⟩
set_option maxRecDepth 100000 in
set_option maxHeartbeats 16000000 in
theorem likelaw_any (a b : I.Rg) (w : World) (hna : I.Num a) (hnb : I.Num b) : Calls Try.prog 4 #[a.val, b.val] w fun e w' => e = .returned (.bool true) ∧ Below w.heap.size w w' := by
  have T0 := Lib.hid (I.Two.new a b w)
  have B0 := Lib.hid (((Below.refl w.heap.size w).alloc (Nat.le_refl _) (.cells a.cells.toArray 27)).alloc (by simp) (.cells b.cells.toArray 27))
  have ha := hna.lab
  have hb := hnb.lab
  unfold maxLen at ha hb
  clear hna hnb
  obtain ⟨v, hv⟩ : ∃ v, I.like a b = v := ⟨_, rfl⟩
  have K1 : Hid (∀ w1 : World, I.Two w.heap.size a b w w1 → Calls Try.prog 19 #[a.val, b.val] w1 fun e w' => e = .returned (.int .i64 v) ∧ I.Two w.heap.size a b w w') := Lib.hid (fun w1 h => by
    refine (like_any a b w1).mono ?_
    rintro e w' ⟨rfl, h1⟩
    exact ⟨by rw [hv], h.below h1⟩)
  have K2 : Hid (∀ w1 : World, I.Two w.heap.size a b w w1 → Calls Try.prog 15 #[a.val, b.val] w1 fun e w' => e = .returned (.int .i64 v) ∧ I.Two w.heap.size a b w w') := Lib.hid (fun w1 h => by
    refine (reflike_any a b w1).mono ?_
    rintro e w' ⟨rfl, h1⟩
    exact ⟨by rw [hv], h.below h1⟩)
  have K3 : Hid (∀ w1 : World, I.Two w.heap.size a b w w1 → Calls Try.prog 13 #[] w1 fun e w' => e = .returned (.bool true) ∧ I.Two w.heap.size a b w w') := Lib.hid (fun w1 h => by
    refine (awake_any w1).mono ?_
    rintro e w' ⟨rfl, h1⟩
    exact ⟨rfl, h.below h1⟩)
  clear hv
  obtain ⟨ak, ai, ap, at_, al, ab, ar, alb⟩ := a
  obtain ⟨bk, bi, bp, bt, bl, bb, br, blb⟩ := b
  simp only [I.Two, I.Rg.val, I.Rg.cells] at K1 K2 K3 T0 B0 ha hb ⊢
  have hbig : (200 < alb.size ∨ (¬ 200 < alb.size ∧ 200 < blb.size)) ∨ (¬ 200 < alb.size ∧ ¬ 200 < blb.size) := by omega
  rcases hbig with hbig | ⟨h1, h2⟩
  · rcases hbig with hbig | ⟨h1, h2⟩
    all_goals
      clear K1 K2 K3 T0
      go_enter Try.func4, Try.ntmps4
      go_wp2_with fail
      refine (awake_any _).mono ?_
      rintro e w5 ⟨rfl, b5⟩
      go_wp2_with fail
      go_ret
      exact ⟨rfl, B0.out.trans (b5.mono B0.out.size)⟩
  · have t0 := T0.out
    obtain ⟨x0, x1, x2, x3, x4, x5, x6, x7, y0, y1, y2, y3, y4, y5, y6, y7, hb, hz⟩ := t0
    go_enter Try.func4, Try.ntmps4
    go_wp2_with fail
    generalize World.alloc (World.alloc w _) _ = w2 at *
    have hbd : Below w.heap.size w w2.drew := hb.drew
    go_region_held3 (fun w' => w'.cell? ⟨w.heap.size, 0, none⟩ = some (.int .i64 ak) ∧ w'.cell? ⟨w.heap.size, 1, none⟩ = some (.int .i64 ai) ∧ w'.cell? ⟨w.heap.size, 2, none⟩ = some (.int .i64 ap) ∧ w'.cell? ⟨w.heap.size, 3, none⟩ = some (.int .i64 at_) ∧ w'.cell? ⟨w.heap.size, 4, none⟩ = some (.int .i64 al) ∧ w'.cell? ⟨w.heap.size, 5, none⟩ = some (.int .i64 ab) ∧ w'.cell? ⟨w.heap.size, 6, none⟩ = some (.int .i64 ar) ∧ w'.cell? ⟨w.heap.size, 7, none⟩ = some (.string alb) ∧ w'.cell? ⟨w.heap.size + 1, 0, none⟩ = some (.int .i64 bk) ∧ w'.cell? ⟨w.heap.size + 1, 1, none⟩ = some (.int .i64 bi) ∧ w'.cell? ⟨w.heap.size + 1, 2, none⟩ = some (.int .i64 bp) ∧ w'.cell? ⟨w.heap.size + 1, 3, none⟩ = some (.int .i64 bt) ∧ w'.cell? ⟨w.heap.size + 1, 4, none⟩ = some (.int .i64 bl) ∧ w'.cell? ⟨w.heap.size + 1, 5, none⟩ = some (.int .i64 bb) ∧ w'.cell? ⟨w.heap.size + 1, 6, none⟩ = some (.int .i64 br) ∧ w'.cell? ⟨w.heap.size + 1, 7, none⟩ = some (.string blb) ∧ Below w.heap.size w w' ∧ w.heap.size + 1 < w'.heap.size)
      (first | exact ⟨x0, x1, x2, x3, x4, x5, x6, x7, y0, y1, y2, y3, y4, y5, y6, y7, hbd, hz⟩ | assumption)
      (first
        | (go_at_call 19; (with_reducible refine (K1.out _ ?_).mono ?_); (first | exact ⟨x0, x1, x2, x3, x4, x5, x6, x7, y0, y1, y2, y3, y4, y5, y6, y7, hbd, hz⟩ | assumption); rintro e w' ⟨rfl, hS⟩)
        | (go_at_call 15; (with_reducible refine (K2.out _ ?_).mono ?_); (first | exact ⟨x0, x1, x2, x3, x4, x5, x6, x7, y0, y1, y2, y3, y4, y5, y6, y7, hbd, hz⟩ | assumption); rintro e w' ⟨rfl, hS⟩)
        | (go_at_call 13; (with_reducible refine (K3.out _ ?_).mono ?_); (first | exact ⟨x0, x1, x2, x3, x4, x5, x6, x7, y0, y1, y2, y3, y4, y5, y6, y7, hbd, hz⟩ | assumption); rintro e w' ⟨rfl, hS⟩; have hBW := hS.2.2.2.2.2.2.2.2.2.2.2.2.2.2.2.2.1))
    all_goals
      go_wp2_with fail
      go_ret
      exact ⟨ret_bool (by simp), by assumption⟩
end Go.Proofs.Ytoemhphgnpedmaa
