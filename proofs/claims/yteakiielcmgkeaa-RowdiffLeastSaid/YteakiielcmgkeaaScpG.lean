/-
  The walks of layer 16: Script (glyphs). By an AI agent.
-/
import Derived.Test.YteakiielcmgkeaaSm
import Derived.Test.YteakiielcmgkeaaRound
import Derived.Test.YteakiielcmgkeaaWkG
namespace Go.Proofs.Yteakiielcmgkeaa
set_option linter.unusedSimpArgs false
set_option linter.unusedVariables false
open Go.RowKit Go.Shelf Go.Deep

attribute [local go_sem] Oper.semAt_some

theorem walkerG_in (n : Nat) (A1 A2 : Option Addr) (n1 c1 n2 c2 : Nat) (w : World) :
    CallsIn Fence.wide n Try.prog 33 #[.slice A1 n1 c1, .slice A2 n2 c2] w fun e w' => e = .returned (.func (.func 36) #[] #[.pointer (some ⟨w.heap.size, 0, none⟩), .pointer (some ⟨w.heap.size + 1, 0, none⟩)]) ∧ w' = (w.alloc (.cells #[.slice A1 n1 c1] 22)).alloc (.cells #[.slice A2 n2 c2] 22) := by
  refine callsIn_of_wp Try.func33 rfl trivial ?_ rfl
  simp only [Try.ntmps33, List.size_toArray, List.length_cons, List.length_nil, Nat.reduceAdd, Nat.reduceSub, Array.replicate_succ, Array.replicate_zero, List.push_toArray, List.append_toArray, List.nil_append, List.cons_append]
  gi_wp2
  go_ret
  exact ⟨rfl, rfl⟩
theorem reads_glyph (W : World) (z : R.G) (t : TypeId) : Reads (W.alloc (.cells z.cells.toArray t)) (W.alloc (.cells z.cells.toArray t)).heap.size 3 (some ⟨W.heap.size, 0, none⟩) 1 z.cells := reads_block W z.cells t 3 1 rfl
theorem reads_glyph_at (W : World) (z : R.G) (t : TypeId) {N : Nat} (h : W.heap.size = N) : Reads (W.alloc (.cells z.cells.toArray t)) (W.alloc (.cells z.cells.toArray t)).heap.size 3 (some ⟨N, 0, none⟩) 1 z.cells := h ▸ reads_glyph W z t
theorem info33 : (Try.prog.info? 33).map (fun i => (i.zero, i.size, i.bytes)) = some (some (.agg #[.string .empty, .bool false, .int .i64 0]), 3, 32) := by kernel_rfl
theorem infoEd : (Try.prog.info? 49).map (fun i => (i.zero, i.size, i.bytes)) = some (some (.agg #[.int .i64 0, .int .i64 0, .slice none 0 0]), 3, 40) := by kernel_rfl

set_option maxRecDepth 100000 in
set_option maxHeartbeats 8000000 in
theorem scriptG_in (A1 A2 : Option Addr) (c1 c2 B : Nat) (a b : List R.G) (w : World) (ha : Reads w B 3 A1 a.length (R.gcs a)) (hb : Reads w B 3 A2 b.length (R.gcs b)) (hB : B ≤ w.heap.size) (hna : a.length ≤ 1000) (hnb : b.length ≤ 1000) :
    Calls Try.prog 26 #[.slice A1 a.length c1, .slice A2 b.length c2] w fun e W' => ∃ v es, e = .returned v ∧ E.Eds 49 33 3 R.G.cells w.heap.size W' v es ∧ es.map (·.ed) = E.script a b ∧ Below w.heap.size w W' := by
  refine (callsIn_wide (n := 10)).1 ?_
  obtain ⟨i0, hi, hz0, hz1, hz2⟩ := info_parts info33
  obtain ⟨iE, hiE, hE0, hE1, hE2⟩ := info_parts infoEd
  refine callsIn_of_wp_marks Try.func26 rfl trivial ?_ rfl
  simp only [Try.ntmps26, List.size_toArray, List.length_cons, List.length_nil, Nat.reduceAdd, Nat.reduceSub, Array.replicate_succ, Array.replicate_zero, List.push_toArray, List.append_toArray, List.nil_append, List.cons_append]
  gi_wp2_with (refine ⟨trivial, ?_⟩; gi_at_call 33; refine (walkerG_in _ _ _ _ _ _ _ _).mono ?_; rintro e w' ⟨rfl, rfl⟩)
  obtain ⟨Bx, hBx⟩ : ∃ Bx, w.heap.size = Bx := ⟨_, rfl⟩
  have b0 := ((((((Boxed.new w 22 (.slice A2 b.length c2)).alloc (.cells #[.slice none 0 0] 46)).alloc (.cells #[.bool false] 4)).alloc (.cells #[.int .i64 0] 3)).alloc (.cells #[.slice A1 a.length c1] 22)).alloc (.cells #[.slice A2 b.length c2] 22))
  have b1 := (((((Boxed.new (w.alloc (.cells #[.slice A2 b.length c2] 22)) 46 (.slice none 0 0)).alloc (.cells #[.bool false] 4)).alloc (.cells #[.int .i64 0] 3)).alloc (.cells #[.slice A1 a.length c1] 22)).alloc (.cells #[.slice A2 b.length c2] 22))
  have b2 := ((((Boxed.new ((w.alloc (.cells #[.slice A2 b.length c2] 22)).alloc (.cells #[.slice none 0 0] 46)) 4 (.bool false)).alloc (.cells #[.int .i64 0] 3)).alloc (.cells #[.slice A1 a.length c1] 22)).alloc (.cells #[.slice A2 b.length c2] 22))
  have b3 := (((Boxed.new (((w.alloc (.cells #[.slice A2 b.length c2] 22)).alloc (.cells #[.slice none 0 0] 46)).alloc (.cells #[.bool false] 4)) 3 (.int .i64 0)).alloc (.cells #[.slice A1 a.length c1] 22)).alloc (.cells #[.slice A2 b.length c2] 22))
  have b4 := ((Boxed.new ((((w.alloc (.cells #[.slice A2 b.length c2] 22)).alloc (.cells #[.slice none 0 0] 46)).alloc (.cells #[.bool false] 4)).alloc (.cells #[.int .i64 0] 3)) 22 (.slice A1 a.length c1)).alloc (.cells #[.slice A2 b.length c2] 22))
  have b5 := (Boxed.new (((((w.alloc (.cells #[.slice A2 b.length c2] 22)).alloc (.cells #[.slice none 0 0] 46)).alloc (.cells #[.bool false] 4)).alloc (.cells #[.int .i64 0] 3)).alloc (.cells #[.slice A1 a.length c1] 22)) 22 (.slice A2 b.length c2))
  simp only [World.size_alloc, hBx] at b0 b1 b2 b3 b4 b5
  have hbel : Below Bx w ((((((w.alloc (.cells #[.slice A2 b.length c2] 22)).alloc (.cells #[.slice none 0 0] 46)).alloc (.cells #[.bool false] 4)).alloc (.cells #[.int .i64 0] 3)).alloc (.cells #[.slice A1 a.length c1] 22)).alloc (.cells #[.slice A2 b.length c2] 22)) := by rw [← hBx]; exact ((((((Below.refl _ w).alloc (Nat.le_refl _) _).alloc (by simp) _).alloc (by simp; omega) _).alloc (by simp; omega) _).alloc (by simp; omega) _).alloc (by simp; omega) _
  have hsz : ((((((w.alloc (.cells #[.slice A2 b.length c2] 22)).alloc (.cells #[.slice none 0 0] 46)).alloc (.cells #[.bool false] 4)).alloc (.cells #[.int .i64 0] 3)).alloc (.cells #[.slice A1 a.length c1] 22)).alloc (.cells #[.slice A2 b.length c2] 22)).heap.size = Bx + 6 := by simp [hBx]
  obtain ⟨W0, hW0⟩ : ∃ W0, ((((((w.alloc (.cells #[.slice A2 b.length c2] 22)).alloc (.cells #[.slice none 0 0] 46)).alloc (.cells #[.bool false] 4)).alloc (.cells #[.int .i64 0] 3)).alloc (.cells #[.slice A1 a.length c1] 22)).alloc (.cells #[.slice A2 b.length c2] 22)) = W0 := ⟨_, rfl⟩
  rw [hW0] at b0 b1 b2 b3 b4 b5 hbel hsz
  rw [hW0, hBx]
  clear hW0
  have hs0 : E.SJ 46 49 33 3 R.G.cells Bx W0 (.slice none 0 0) ([] : List (E.Es R.G)) := ⟨b1, E.eds_nil _⟩
  have hg0 : (E.SG 46 49 33 22 3 R.G.cells w Bx (.slice A1 a.length c1) (.slice A2 b.length c2)) W0 := ⟨b0, b4, b5, hbel, _, _, hs0⟩
  have hG1 : ∀ W : World, (E.SG 46 49 33 22 3 R.G.cells w Bx (.slice A1 a.length c1) (.slice A2 b.length c2)) W → Boxed W (Bx + 4) 22 (.slice A1 a.length c1) ∧ Boxed W (Bx + 5) 22 (.slice A2 b.length c2) ∧ Reads W B 3 A1 a.length (R.gcs a) ∧ Reads W B 3 A2 b.length (R.gcs b) ∧ B ≤ W.heap.size := fun W h =>
    ⟨h.2.1, h.2.2.1, ha.below h.2.2.2.1 (by omega), hb.below h.2.2.2.1 (by omega), Nat.le_trans hB h.2.2.2.1.size⟩
  refine range_ok rfl (by decide) (gf := 36) (lb := #[.pointer (some ⟨Bx + 4, 0, none⟩), .pointer (some ⟨Bx + 5, 0, none⟩)]) rfl trivial (enters_of Try.func36 (by kernel_rfl) rfl)
    (walk_stops 9 (by decide) (Bx + 4) (Bx + 5) A1 A2 c1 c2 B a b hna hnb (E.SG 46 49 33 22 3 R.G.cells w Bx (.slice A1 a.length c1) (.slice A2 b.length c2)) (E.SF 46 49 33 3 R.G.cells Bx) hG1 (fun W W' hb' h => E.SG.below hBx h hb') (fun W W' h hb' => E.SG.free h hb') (fun T H W k h => E.SF.drewN k h) W0 hg0)
    (fun h k => h.trans k) (fun W l o o' hl ho hc _ => E.skp_put o' hBx (by omega) ho hc) (Below.refl _ _) (fun _ => rfl)
    (fun pre W => (E.SG 46 49 33 22 3 R.G.cells w Bx (.slice A1 a.length c1) (.slice A2 b.length c2)) W ∧ ∃ v es, E.SJ 46 49 33 3 R.G.cells Bx W v es ∧ es.map (·.ed) = (E.sst b pre).1 ∧ Boxed W (Bx + 2) 4 (.bool (E.sst b pre).2.1) ∧ Boxed W (Bx + 3) 3 (.int .i64 ((E.sst b pre).2.2 : Nat)))
    (fun _ _ _ => False)
    (fun pre W W' row h hg hr => by
      obtain ⟨hgg, v, es, h1, h2, h3, h4⟩ := h
      have hr1 : ∀ r, row = some r → Bx + 6 ≤ r := fun r e => by have := (hr r e).1; omega
      have k1 : E.SJ 46 49 33 3 R.G.cells Bx W' v es := h1.kept hg (fun r e => ⟨by have := hr1 r e; omega, fun hO => by
        obtain ⟨cur, t, q1, _⟩ := h1.type hO
        obtain ⟨_, o, q2, q3⟩ := hr r e
        rw [q1] at q2; cases q2; cases q3⟩)
      obtain ⟨g1, g2, g3, g4, -⟩ := hgg
      exact ⟨⟨g1.kept hg (fun e => by have := hr1 _ e.symm; omega), g2.kept hg (fun e => by have := hr1 _ e.symm; omega), g3.kept hg (fun e => by have := hr1 _ e.symm; omega), g4.grown hg (hBx ▸ g4.size) (fun k e => by have := hr1 k e; omega), v, es, k1⟩,
        v, es, k1, h2, h3.kept hg (fun e => by have := hr1 _ e.symm; omega), h4.kept hg (fun e => by have := hr1 _ e.symm; omega)⟩)
    (fun _ _ _ _ _ hs _ _ => hs)
    ⟨hg0, _, _, hs0, rfl, b2, b3⟩
    (fun x => { tmps := #[.slice A1 a.length c1, .slice A2 b.length c2, undef, .pointer (some ⟨Bx, 0, none⟩), .slice none 0 0, .pointer (some ⟨Bx + 1, 0, none⟩), .pointer (some ⟨Bx + 1 + 1, 0, none⟩), .pointer (some ⟨Bx + 1 + 1 + 1, 0, none⟩), .int .i64 x.1, .int .i64 x.2, undef, .slice A1 a.length c1, .slice A2 b.length c2, .func (.func 36) #[] #[.pointer (some ⟨Bx + 1 + 1 + 1 + 1, 0, none⟩), .pointer (some ⟨Bx + 1 + 1 + 1 + 1 + 1, 0, none⟩)], .int .i64 x.1, .int .i64 x.2, undef, undef, undef, undef, undef, undef, undef, undef, undef, undef, undef, undef, undef, undef, undef, undef, undef, undef, undef, undef, undef, undef, undef, undef, undef, undef, undef, undef, undef, undef, undef, undef, undef, undef, undef, undef, undef, undef, undef, undef, undef], defers := [] })
    ?assign ?body ?done ?stop
  case assign =>
    rintro l x W K hK
    dsimp only [E.sv]
    gi_wp2
    exact hK
  case body =>
    rintro l pre ⟨s, i⟩ W hl ⟨r, hrl⟩ ⟨hg, v, es, hs, hes, hop, hj⟩ hok
    dsimp only
    obtain ⟨hxa, hnx⟩ := E.ys_next hok
    have hpl := E.ys_pre_len hok
    obtain ⟨hlow, hopn⟩ := E.sst_low b pre
    have hsn := E.sst_snoc b pre (s, i)
    have hW6 : Bx + 6 ≤ W.heap.size := by have := hg.2.2.1.lt; omega
    have co : W.cell? ⟨Bx + 1 + 1, 0, none⟩ = some (.bool (E.sst b pre).2.1) := hop.cell
    have fo : W.frozen? ⟨Bx + 1 + 1, 0, none⟩ = false := hop.frozen
    have cj : W.cell? ⟨Bx + 1 + 1 + 1, 0, none⟩ = some (.int .i64 ((E.sst b pre).2.2 : Nat)) := hj.cell
    have fj : W.frozen? ⟨Bx + 1 + 1 + 1, 0, none⟩ = false := hj.frozen
    generalize hst : E.sst b pre = st at *
    obtain ⟨ed, op, j⟩ := st
    dsimp only at *
    clear hok
    -- CASES
    rcases hnx with ⟨e1, h1, h2⟩ | ⟨e1, h1, h2⟩ | ⟨e1, h2⟩
    · -- a match
      obtain rfl : s = 0 := e1
      rw [E.sstep_0] at hsn
      have u1 : IntKind.i64.wrap ((j : Int) + 1) = (j : Int) + 1 := by simp [IntKind.wrap, IntKind.bits, IntKind.signed]; omega
      have cj2 : (W.setCell ⟨Bx + 1 + 1, 0, none⟩ (.bool false)).cell? ⟨Bx + 1 + 1 + 1, 0, none⟩ = some (.int .i64 j) := (hj.other (B' := Bx + 2) (by omega) (.bool false)).cell
      have fj2 : (W.setCell ⟨Bx + 1 + 1, 0, none⟩ (.bool false)).frozen? ⟨Bx + 1 + 1 + 1, 0, none⟩ = false := (hj.other (B' := Bx + 2) (by omega) (.bool false)).frozen
      have hfin : KeepsFrom W0.heap.size W ((W.setCell ⟨Bx + 1 + 1, 0, none⟩ (.bool false)).setCell ⟨Bx + 1 + 1 + 1, 0, none⟩ (.int .i64 ((j : Int) + 1))) ∧ E.Kp (E.SG 46 49 33 22 3 R.G.cells w Bx (.slice A1 a.length c1) (.slice A2 b.length c2)) (E.SF 46 49 33 3 R.G.cells Bx) W ((W.setCell ⟨Bx + 1 + 1, 0, none⟩ (.bool false)).setCell ⟨Bx + 1 + 1 + 1, 0, none⟩ (.int .i64 ((j : Int) + 1))) ∧ (E.SG 46 49 33 22 3 R.G.cells w Bx (.slice A1 a.length c1) (.slice A2 b.length c2)) ((W.setCell ⟨Bx + 1 + 1, 0, none⟩ (.bool false)).setCell ⟨Bx + 1 + 1 + 1, 0, none⟩ (.int .i64 ((j : Int) + 1))) ∧ ∃ v es, E.SJ 46 49 33 3 R.G.cells Bx ((W.setCell ⟨Bx + 1 + 1, 0, none⟩ (.bool false)).setCell ⟨Bx + 1 + 1 + 1, 0, none⟩ (.int .i64 ((j : Int) + 1))) v es ∧ es.map (·.ed) = (E.sst b (pre ++ [(0, i)])).1 ∧ Boxed ((W.setCell ⟨Bx + 1 + 1, 0, none⟩ (.bool false)).setCell ⟨Bx + 1 + 1 + 1, 0, none⟩ (.int .i64 ((j : Int) + 1))) (Bx + 2) 4 (.bool (E.sst b (pre ++ [(0, i)])).2.1) ∧ Boxed ((W.setCell ⟨Bx + 1 + 1, 0, none⟩ (.bool false)).setCell ⟨Bx + 1 + 1 + 1, 0, none⟩ (.int .i64 ((j : Int) + 1))) (Bx + 3) 3 (.int .i64 ((E.sst b (pre ++ [(0, i)])).2.2 : Nat)) := by
        have k1 := E.skp_box (TS := 22) (w := w) (a1 := .slice A1 a.length c1) (a2 := .slice A2 b.length c2) (.bool false) hBx hs (.inl rfl) hop
        have s1 := E.sj_box (.bool false) hs (.inl rfl) hop
        have o1 := hop.set (.bool false)
        have j1 := hj.other (B' := Bx + 2) (by omega) (.bool false)
        have k2 := E.skp_box (TS := 22) (w := w) (a1 := .slice A1 a.length c1) (a2 := .slice A2 b.length c2) (.int .i64 ((j : Int) + 1)) hBx s1 (.inr rfl) j1
        have s2 := E.sj_box (.int .i64 ((j : Int) + 1)) s1 (.inr rfl) j1
        have o2 := o1.other (B' := Bx + 3) (by omega) (.int .i64 ((j : Int) + 1))
        have j2 := j1.set (.int .i64 ((j : Int) + 1))
        refine ⟨((KeepsOthers.setCell _ _ _).trans (KeepsOthers.setCell _ _ _)).from _, k1.trans k2, (k1.trans k2).1 hg, v, es, s2, ?_, ?_, ?_⟩
        · rw [hsn]; exact hes
        · rw [hsn]; exact o2
        · rw [hsn]; exact j2
      clear hg hs hes hop hj hsn hlow hopn hG1
      gi_wp2
      exact hfin
    · obtain rfl : s = 1 := e1
      cases op with
      | true =>
        · -- a deletion, an open edit
          rw [E.sstep_1] at hsn
          obtain ⟨el, xl, rfl⟩ : ∃ l y, es = l ++ [y] := by
            rcases List.eq_nil_or_concat es with rfl | ⟨l, y, e⟩
            · exact absurd hes.symm (hopn rfl)
            · exact ⟨l, y, by simpa using e⟩
          obtain ⟨g, cap, rfl⟩ := ownsRow_succ (show W.ownsRow (Bx + 6) 49 3 v (el.length + 1) _ from by have := hs.eds.own; rwa [show (el ++ [xl]).length = el.length + 1 by simp] at this)
          have cv1 := hs.box.cell
          obtain ⟨cd, csl, fd, fsl⟩ := hs.last
          have hxl := hlow.2 xl.ed (by rw [← hes]; simp)
          have u2 : IntKind.i64.wrap ((el.length : Int) + 1 - 1) = (el.length : Int) := by have := hlow.1; rw [← hes] at this; simp at this; simp [IntKind.wrap, IntKind.bits, IntKind.signed]; omega
          have u3 : IntKind.i64.wrap (el.length : Int) = (el.length : Int) := by have := hlow.1; rw [← hes] at this; simp at this; simp [IntKind.wrap, IntKind.bits, IntKind.signed]; omega
          have q1 : (0 : Int) ≤ (el.length : Int) := by omega
          have q2 : (el.length : Int) < (el.length : Int) + 1 := by omega
          have u4 : IntKind.i64.wrap (xl.ed.del + 1) = xl.ed.del + 1 := by simp [IntKind.wrap, IntKind.bits, IntKind.signed]; omega
          have fin := E.del_fin (B0 := Bx + 6) (TS := 22) (w := w) (a1 := .slice A1 a.length c1) (a2 := .slice A2 b.length c2) (xl.ed.del + 1) hBx (by decide) (E.Kp.refl _ _ W) (KeepsFrom.refl _ _) hg hs hop hj
          clear hg hop hj hlow hopn hG1
          gi_wp2
          exact ⟨fin.1, fin.2.1, fin.2.2.1, _, _, fin.2.2.2.1, by rw [hsn, ← hes]; simp [E.modLast_snoc], by rw [hsn]; exact fin.2.2.2.2.1, by rw [hsn]; exact fin.2.2.2.2.2⟩
      | false =>
        · -- a deletion, a new edit
          rw [E.sstep_1] at hsn
          have cv1 := hs.box.cell
          have u2 : IntKind.i64.wrap ((es.length : Int) + 1 - 1) = (es.length : Int) := by have := hlow.1; rw [← hes] at this; simp at this; simp [IntKind.wrap, IntKind.bits, IntKind.signed]; omega
          have u3 : IntKind.i64.wrap (es.length : Int) = (es.length : Int) := by have := hlow.1; rw [← hes] at this; simp at this; simp [IntKind.wrap, IntKind.bits, IntKind.signed]; omega
          have q1 : (0 : Int) ≤ (es.length : Int) := by omega
          have q2 : (es.length : Int) < (es.length : Int) + 1 := by omega
          have hel : es.length ≤ 2000 := by have := hlow.1; rw [← hes] at this; simp at this; omega
          clear hlow hopn hG1
          gi_wp2_with (gi_at_builtin; refine listIn_append_any rfl (.tmp 22) (.tmp 25) 46 rfl (Bx + 6) 49 iE _ 3 40 Try.underlying46 hiE hE0 hE1 hE2 rfl (by decide) v _ _ rfl (hs.eds.own.alloc _) _ _ 1 1 [.int .i64 i, .int .i64 0, .slice none 0 0] rfl (reads_block W [.int .i64 i, .int .i64 0, .slice none 0 0] 49 3 1 rfl) (by simp [Value.oneCell', R.G.cells]) (by unfold maxLen; omega) (by omega) (by simp; omega) ?_; intro v' W2 hown' hgrow hnew; obtain ⟨g, cap, rfl⟩ := ownsRow_succ hown'; obtain ⟨⟨b1, o1⟩, hkf, hka, hx6a, sa, oa, ja⟩ := E.push_fin (B0 := Bx + 6) (TS := 22) (w := w) (a1 := .slice A1 a.length c1) (a2 := .slice A2 b.length c2) (e := ⟨i, 0, []⟩) (.bool true) hBx (by decide) (by decide) hs hW6 hop hj rfl hgrow hown' hnew; have cb1 := b1.cell; have fb1 := b1.frozen; have co1 := o1.cell; have fo1 := o1.frozen; have cva := sa.box.cell; obtain ⟨cda, csla, fda, fsla⟩ := sa.last; have fin := E.del_fin (B0 := Bx + 6) (TS := 22) (w := w) (a1 := .slice A1 a.length c1) (a2 := .slice A2 b.length c2) 1 hBx (by decide) hka hkf hg sa oa ja)
          exact ⟨fin.1, fin.2.1, fin.2.2.1, _, _, fin.2.2.2.1, by rw [hsn, ← hes]; simp [E.modLast_snoc], by rw [hsn]; exact fin.2.2.2.2.1, by rw [hsn]; exact fin.2.2.2.2.2⟩
    · obtain rfl : s = 2 := e1
      cases op with
      | true =>
        · -- an insertion, an open edit
          rw [E.sstep_2] at hsn
          have u1 : IntKind.i64.wrap ((j : Int) + 1) = (j : Int) + 1 := by simp [IntKind.wrap, IntKind.bits, IntKind.signed]; omega
          have q3 : (0 : Int) ≤ (j : Int) := by omega
          have q4 : (j : Int) < (b.length : Int) := by omega
          obtain ⟨bb, ob, rfl, hbb, hcb⟩ := (hb.below hg.2.2.2.1 (by omega)).gl (by omega)
          obtain ⟨y0, ya, yb⟩ := hcb j h2
          rw [← getD_at (d := default) h2] at y0 ya yb
          have cB := hg.1.cell
          have hbB : bb < Bx := by omega
          clear hcb
          generalize b.getD j default = z at hsn y0 ya yb
          obtain ⟨el, xl, rfl⟩ : ∃ l y, es = l ++ [y] := by
            rcases List.eq_nil_or_concat es with rfl | ⟨l, y, e⟩
            · exact absurd hes.symm (hopn rfl)
            · exact ⟨l, y, by simpa using e⟩
          obtain ⟨g, cap, rfl⟩ := ownsRow_succ (show W.ownsRow (Bx + 6) 49 3 v (el.length + 1) _ from by have := hs.eds.own; rwa [show (el ++ [xl]).length = el.length + 1 by simp] at this)
          have cv1 := hs.box.cell
          obtain ⟨cd, csl, fd, fsl⟩ := hs.last
          have hxl := hlow.2 xl.ed (by rw [← hes]; simp)
          have u2 : IntKind.i64.wrap ((el.length : Int) + 1 - 1) = (el.length : Int) := by have := hlow.1; rw [← hes] at this; simp at this; simp [IntKind.wrap, IntKind.bits, IntKind.signed]; omega
          have u3 : IntKind.i64.wrap (el.length : Int) = (el.length : Int) := by have := hlow.1; rw [← hes] at this; simp at this; simp [IntKind.wrap, IntKind.bits, IntKind.signed]; omega
          have q1 : (0 : Int) ≤ (el.length : Int) := by omega
          have q2 : (el.length : Int) < (el.length : Int) + 1 := by omega
          have hins := hs.eds.ins xl (by simp)
          have csl2 := (World.cell?_alloc_lt W (.cells #[.string z.t, .bool z.wd, .int .i64 z.st] 33) ⟨g, el.length * 3 + 2, none⟩ (hs.lt (.inl rfl)).2).trans csl
          clear hopn hG1
          gi_wp2
          refine region_round (by kernel_rfl) (by kernel_rfl) ?_
          refine wpAnyIn_take (i := 0) (v := ?vo0) rfl rfl (by kernel_rfl) (by kernel_rfl) (by kernel_rfl) (fun _ _ _ h => h) ⟨Or.inl ⟨by rfl, ?yo0⟩, fun _ => rfl⟩ ?ro0
          case yo0 => (intro w; go_simp; try (with_reducible rfl))
          refine wpAnyIn_take (i := 1) (v := ?vo1) rfl rfl (by kernel_rfl) (by kernel_rfl) (by kernel_rfl) (fun _ _ _ h => h) ⟨Or.inl ⟨by rfl, ?yo1⟩, fun _ => rfl⟩ ?ro1
          case yo1 => (intro w; go_simp; try (with_reducible rfl))
          refine wpAnyIn_take (i := 2) (v := ?vo2) rfl rfl (by kernel_rfl) (by kernel_rfl) (by kernel_rfl) (fun _ _ _ h => h) ⟨Or.inl ⟨by rfl, ?yo2⟩, fun _ => rfl⟩ ?ro2
          case yo2 => (intro w; go_simp; try (with_reducible rfl))
          refine wpAnyIn_take (i := 3) (v := ?vo3) rfl rfl (by kernel_rfl) (by kernel_rfl) (by kernel_rfl) (fun _ _ _ h => h) ⟨Or.inl ⟨by rfl, ?yo3⟩, fun _ => rfl⟩ ?ro3
          case yo3 => (intro w; go_simp; try (with_reducible rfl))
          refine wpAnyIn_ready (rs := [4, 5, 6]) (by kernel_rfl) (by simp) ?_
          refine AllReadyIn.cons rfl (fun K hK => ?_) ?_
          · go_simp; refine hK _ _ ?_; clear hK K
            refine wpAnyIn_ready (rs := [5, 6]) (by kernel_rfl) (by simp) ?_
            refine AllReadyIn.cons rfl (fun K hK => ?_) ?_
            · go_simp; refine hK _ _ ?_; clear hK K
              refine wpAnyIn_ready (rs := [6]) (by kernel_rfl) (by simp) ?_
              refine AllReadyIn.cons rfl (fun K hK => ?_) AllReadyIn.nil
              go_simp; refine hK _ _ ?_; clear hK K
              refine wpAnyIn_ready (rs := [7]) (by kernel_rfl) (by simp) ?_
              refine AllReadyIn.cons rfl (fun K hK => ?_) AllReadyIn.nil
              go_simp; refine hK _ _ ?_; clear hK K
              refine wpAnyIn_ready (rs := [8]) (by kernel_rfl) (by simp) ?_
              refine AllReadyIn.cons rfl (fun K hK => ?_) AllReadyIn.nil
              go_simp; refine hK _ _ ?_; clear hK K
              refine wpAnyIn_ready (rs := [9]) (by kernel_rfl) (by simp) ?_
              refine AllReadyIn.cons rfl (fun K hK => ?_) AllReadyIn.nil
              go_simp; refine hK _ _ ?_; clear hK K
              refine wpAnyIn_ready (rs := [10]) (by kernel_rfl) (by simp) ?_
              refine AllReadyIn.cons rfl (fun K hK => ?_) AllReadyIn.nil
              refine stepIn_append_any rfl rfl (.tmp 45) (.tmp 50) 22 rfl (Bx + 6) 33 i0 _ 3 32 Try.underlying22 hi hz0 hz1 hz2 rfl (by decide) xl.sl _ _ rfl (hins.alloc _) _ _ 1 1 z.cells rfl (reads_glyph W z 33) (by simp [Value.oneCell', R.G.cells]) (by unfold maxLen; omega) (by omega) (by simp; omega) ?_
              intro u W3 hown3 hgrow3 hnew3
              obtain ⟨gg, cap', rfl⟩ := ownsRow_succ hown3
              obtain ⟨⟨f3, c3, j3⟩, fin⟩ := E.ins_fin (B0 := Bx + 6) (TS := 22) (w := w) (a1 := .slice A1 a.length c1) (a2 := .slice (some ⟨bb, ob, none⟩) b.length c2) (z := z) (t := 33) (.int .i64 ((j : Int) + 1)) hBx (by decide) (by decide) (E.Kp.refl _ _ W) (KeepsFrom.refl _ _) hg hW6 hs hop hj hgrow3 hown3 hnew3
              have cj3 : _ = some (Value.int .i64 (j : Int)) := j3.cell
              have fj3 := j3.frozen
              try go_simp
              refine hK _ _ ?_; clear hK K
              refine wpAnyIn_ready (rs := [11]) (by kernel_rfl) (by simp) ?_
              refine AllReadyIn.cons rfl (fun K hK => ?_) AllReadyIn.nil
              go_simp; refine hK _ _ ?_; clear hK K
              refine wpAnyIn_ready (rs := [12]) (by kernel_rfl) (by simp) ?_
              refine AllReadyIn.cons rfl (fun K hK => ?_) AllReadyIn.nil
              go_simp; refine hK _ _ ?_; clear hK K
              refine wpAnyIn_ready (rs := [13]) (by kernel_rfl) (by simp) ?_
              refine AllReadyIn.cons rfl (fun K hK => ?_) AllReadyIn.nil
              go_simp; refine hK _ _ ?_; clear hK K
              refine wpAnyIn_done (by kernel_rfl) ?_ _
              gi_wp2
              exact ⟨fin.1, fin.2.1, fin.2.2.1, _, _, fin.2.2.2.1, by rw [hsn, ← hes]; simp [E.modLast_snoc], by rw [hsn]; exact fin.2.2.2.2.1, by rw [hsn]; exact fin.2.2.2.2.2⟩
            refine AllReadyIn.cons rfl (fun K hK => ?_) ?_
            · go_simp; refine hK _ _ ?_; clear hK K
              refine wpAnyIn_ready (rs := [5]) (by kernel_rfl) (by simp) ?_
              refine AllReadyIn.cons rfl (fun K hK => ?_) AllReadyIn.nil
              go_simp; refine hK _ _ ?_; clear hK K
              refine wpAnyIn_ready (rs := [7]) (by kernel_rfl) (by simp) ?_
              refine AllReadyIn.cons rfl (fun K hK => ?_) AllReadyIn.nil
              go_simp; refine hK _ _ ?_; clear hK K
              refine wpAnyIn_ready (rs := [8]) (by kernel_rfl) (by simp) ?_
              refine AllReadyIn.cons rfl (fun K hK => ?_) AllReadyIn.nil
              go_simp; refine hK _ _ ?_; clear hK K
              refine wpAnyIn_ready (rs := [9]) (by kernel_rfl) (by simp) ?_
              refine AllReadyIn.cons rfl (fun K hK => ?_) AllReadyIn.nil
              go_simp; refine hK _ _ ?_; clear hK K
              refine wpAnyIn_ready (rs := [10]) (by kernel_rfl) (by simp) ?_
              refine AllReadyIn.cons rfl (fun K hK => ?_) AllReadyIn.nil
              refine stepIn_append_any rfl rfl (.tmp 45) (.tmp 50) 22 rfl (Bx + 6) 33 i0 _ 3 32 Try.underlying22 hi hz0 hz1 hz2 rfl (by decide) xl.sl _ _ rfl (hins.alloc _) _ _ 1 1 z.cells rfl (reads_glyph W z 33) (by simp [Value.oneCell', R.G.cells]) (by unfold maxLen; omega) (by omega) (by simp; omega) ?_
              intro u W3 hown3 hgrow3 hnew3
              obtain ⟨gg, cap', rfl⟩ := ownsRow_succ hown3
              obtain ⟨⟨f3, c3, j3⟩, fin⟩ := E.ins_fin (B0 := Bx + 6) (TS := 22) (w := w) (a1 := .slice A1 a.length c1) (a2 := .slice (some ⟨bb, ob, none⟩) b.length c2) (z := z) (t := 33) (.int .i64 ((j : Int) + 1)) hBx (by decide) (by decide) (E.Kp.refl _ _ W) (KeepsFrom.refl _ _) hg hW6 hs hop hj hgrow3 hown3 hnew3
              have cj3 : _ = some (Value.int .i64 (j : Int)) := j3.cell
              have fj3 := j3.frozen
              try go_simp
              refine hK _ _ ?_; clear hK K
              refine wpAnyIn_ready (rs := [11]) (by kernel_rfl) (by simp) ?_
              refine AllReadyIn.cons rfl (fun K hK => ?_) AllReadyIn.nil
              go_simp; refine hK _ _ ?_; clear hK K
              refine wpAnyIn_ready (rs := [12]) (by kernel_rfl) (by simp) ?_
              refine AllReadyIn.cons rfl (fun K hK => ?_) AllReadyIn.nil
              go_simp; refine hK _ _ ?_; clear hK K
              refine wpAnyIn_ready (rs := [13]) (by kernel_rfl) (by simp) ?_
              refine AllReadyIn.cons rfl (fun K hK => ?_) AllReadyIn.nil
              go_simp; refine hK _ _ ?_; clear hK K
              refine wpAnyIn_done (by kernel_rfl) ?_ _
              gi_wp2
              exact ⟨fin.1, fin.2.1, fin.2.2.1, _, _, fin.2.2.2.1, by rw [hsn, ← hes]; simp [E.modLast_snoc], by rw [hsn]; exact fin.2.2.2.2.1, by rw [hsn]; exact fin.2.2.2.2.2⟩
            exact AllReadyIn.nil
          refine AllReadyIn.cons rfl (fun K hK => ?_) ?_
          · go_simp; refine hK _ _ ?_; clear hK K
            refine wpAnyIn_ready (rs := [4, 6]) (by kernel_rfl) (by simp) ?_
            refine AllReadyIn.cons rfl (fun K hK => ?_) ?_
            · go_simp; refine hK _ _ ?_; clear hK K
              refine wpAnyIn_ready (rs := [6]) (by kernel_rfl) (by simp) ?_
              refine AllReadyIn.cons rfl (fun K hK => ?_) AllReadyIn.nil
              go_simp; refine hK _ _ ?_; clear hK K
              refine wpAnyIn_ready (rs := [7]) (by kernel_rfl) (by simp) ?_
              refine AllReadyIn.cons rfl (fun K hK => ?_) AllReadyIn.nil
              go_simp; refine hK _ _ ?_; clear hK K
              refine wpAnyIn_ready (rs := [8]) (by kernel_rfl) (by simp) ?_
              refine AllReadyIn.cons rfl (fun K hK => ?_) AllReadyIn.nil
              go_simp; refine hK _ _ ?_; clear hK K
              refine wpAnyIn_ready (rs := [9]) (by kernel_rfl) (by simp) ?_
              refine AllReadyIn.cons rfl (fun K hK => ?_) AllReadyIn.nil
              go_simp; refine hK _ _ ?_; clear hK K
              refine wpAnyIn_ready (rs := [10]) (by kernel_rfl) (by simp) ?_
              refine AllReadyIn.cons rfl (fun K hK => ?_) AllReadyIn.nil
              refine stepIn_append_any rfl rfl (.tmp 45) (.tmp 50) 22 rfl (Bx + 6) 33 i0 _ 3 32 Try.underlying22 hi hz0 hz1 hz2 rfl (by decide) xl.sl _ _ rfl (hins.alloc _) _ _ 1 1 z.cells rfl (reads_glyph W z 33) (by simp [Value.oneCell', R.G.cells]) (by unfold maxLen; omega) (by omega) (by simp; omega) ?_
              intro u W3 hown3 hgrow3 hnew3
              obtain ⟨gg, cap', rfl⟩ := ownsRow_succ hown3
              obtain ⟨⟨f3, c3, j3⟩, fin⟩ := E.ins_fin (B0 := Bx + 6) (TS := 22) (w := w) (a1 := .slice A1 a.length c1) (a2 := .slice (some ⟨bb, ob, none⟩) b.length c2) (z := z) (t := 33) (.int .i64 ((j : Int) + 1)) hBx (by decide) (by decide) (E.Kp.refl _ _ W) (KeepsFrom.refl _ _) hg hW6 hs hop hj hgrow3 hown3 hnew3
              have cj3 : _ = some (Value.int .i64 (j : Int)) := j3.cell
              have fj3 := j3.frozen
              try go_simp
              refine hK _ _ ?_; clear hK K
              refine wpAnyIn_ready (rs := [11]) (by kernel_rfl) (by simp) ?_
              refine AllReadyIn.cons rfl (fun K hK => ?_) AllReadyIn.nil
              go_simp; refine hK _ _ ?_; clear hK K
              refine wpAnyIn_ready (rs := [12]) (by kernel_rfl) (by simp) ?_
              refine AllReadyIn.cons rfl (fun K hK => ?_) AllReadyIn.nil
              go_simp; refine hK _ _ ?_; clear hK K
              refine wpAnyIn_ready (rs := [13]) (by kernel_rfl) (by simp) ?_
              refine AllReadyIn.cons rfl (fun K hK => ?_) AllReadyIn.nil
              go_simp; refine hK _ _ ?_; clear hK K
              refine wpAnyIn_done (by kernel_rfl) ?_ _
              gi_wp2
              exact ⟨fin.1, fin.2.1, fin.2.2.1, _, _, fin.2.2.2.1, by rw [hsn, ← hes]; simp [E.modLast_snoc], by rw [hsn]; exact fin.2.2.2.2.1, by rw [hsn]; exact fin.2.2.2.2.2⟩
            refine AllReadyIn.cons rfl (fun K hK => ?_) ?_
            · go_simp; refine hK _ _ ?_; clear hK K
              refine wpAnyIn_ready (rs := [4, 7]) (by kernel_rfl) (by simp) ?_
              refine AllReadyIn.cons rfl (fun K hK => ?_) ?_
              · go_simp; refine hK _ _ ?_; clear hK K
                refine wpAnyIn_ready (rs := [7]) (by kernel_rfl) (by simp) ?_
                refine AllReadyIn.cons rfl (fun K hK => ?_) AllReadyIn.nil
                go_simp; refine hK _ _ ?_; clear hK K
                refine wpAnyIn_ready (rs := [8]) (by kernel_rfl) (by simp) ?_
                refine AllReadyIn.cons rfl (fun K hK => ?_) AllReadyIn.nil
                go_simp; refine hK _ _ ?_; clear hK K
                refine wpAnyIn_ready (rs := [9]) (by kernel_rfl) (by simp) ?_
                refine AllReadyIn.cons rfl (fun K hK => ?_) AllReadyIn.nil
                go_simp; refine hK _ _ ?_; clear hK K
                refine wpAnyIn_ready (rs := [10]) (by kernel_rfl) (by simp) ?_
                refine AllReadyIn.cons rfl (fun K hK => ?_) AllReadyIn.nil
                refine stepIn_append_any rfl rfl (.tmp 45) (.tmp 50) 22 rfl (Bx + 6) 33 i0 _ 3 32 Try.underlying22 hi hz0 hz1 hz2 rfl (by decide) xl.sl _ _ rfl (hins.alloc _) _ _ 1 1 z.cells rfl (reads_glyph W z 33) (by simp [Value.oneCell', R.G.cells]) (by unfold maxLen; omega) (by omega) (by simp; omega) ?_
                intro u W3 hown3 hgrow3 hnew3
                obtain ⟨gg, cap', rfl⟩ := ownsRow_succ hown3
                obtain ⟨⟨f3, c3, j3⟩, fin⟩ := E.ins_fin (B0 := Bx + 6) (TS := 22) (w := w) (a1 := .slice A1 a.length c1) (a2 := .slice (some ⟨bb, ob, none⟩) b.length c2) (z := z) (t := 33) (.int .i64 ((j : Int) + 1)) hBx (by decide) (by decide) (E.Kp.refl _ _ W) (KeepsFrom.refl _ _) hg hW6 hs hop hj hgrow3 hown3 hnew3
                have cj3 : _ = some (Value.int .i64 (j : Int)) := j3.cell
                have fj3 := j3.frozen
                try go_simp
                refine hK _ _ ?_; clear hK K
                refine wpAnyIn_ready (rs := [11]) (by kernel_rfl) (by simp) ?_
                refine AllReadyIn.cons rfl (fun K hK => ?_) AllReadyIn.nil
                go_simp; refine hK _ _ ?_; clear hK K
                refine wpAnyIn_ready (rs := [12]) (by kernel_rfl) (by simp) ?_
                refine AllReadyIn.cons rfl (fun K hK => ?_) AllReadyIn.nil
                go_simp; refine hK _ _ ?_; clear hK K
                refine wpAnyIn_ready (rs := [13]) (by kernel_rfl) (by simp) ?_
                refine AllReadyIn.cons rfl (fun K hK => ?_) AllReadyIn.nil
                go_simp; refine hK _ _ ?_; clear hK K
                refine wpAnyIn_done (by kernel_rfl) ?_ _
                gi_wp2
                exact ⟨fin.1, fin.2.1, fin.2.2.1, _, _, fin.2.2.2.1, by rw [hsn, ← hes]; simp [E.modLast_snoc], by rw [hsn]; exact fin.2.2.2.2.1, by rw [hsn]; exact fin.2.2.2.2.2⟩
              refine AllReadyIn.cons rfl (fun K hK => ?_) ?_
              · go_simp; refine hK _ _ ?_; clear hK K
                refine wpAnyIn_ready (rs := [4, 8]) (by kernel_rfl) (by simp) ?_
                refine AllReadyIn.cons rfl (fun K hK => ?_) ?_
                · go_simp; refine hK _ _ ?_; clear hK K
                  refine wpAnyIn_ready (rs := [8]) (by kernel_rfl) (by simp) ?_
                  refine AllReadyIn.cons rfl (fun K hK => ?_) AllReadyIn.nil
                  go_simp; refine hK _ _ ?_; clear hK K
                  refine wpAnyIn_ready (rs := [9]) (by kernel_rfl) (by simp) ?_
                  refine AllReadyIn.cons rfl (fun K hK => ?_) AllReadyIn.nil
                  go_simp; refine hK _ _ ?_; clear hK K
                  refine wpAnyIn_ready (rs := [10]) (by kernel_rfl) (by simp) ?_
                  refine AllReadyIn.cons rfl (fun K hK => ?_) AllReadyIn.nil
                  refine stepIn_append_any rfl rfl (.tmp 45) (.tmp 50) 22 rfl (Bx + 6) 33 i0 _ 3 32 Try.underlying22 hi hz0 hz1 hz2 rfl (by decide) xl.sl _ _ rfl (hins.alloc _) _ _ 1 1 z.cells rfl (reads_glyph W z 33) (by simp [Value.oneCell', R.G.cells]) (by unfold maxLen; omega) (by omega) (by simp; omega) ?_
                  intro u W3 hown3 hgrow3 hnew3
                  obtain ⟨gg, cap', rfl⟩ := ownsRow_succ hown3
                  obtain ⟨⟨f3, c3, j3⟩, fin⟩ := E.ins_fin (B0 := Bx + 6) (TS := 22) (w := w) (a1 := .slice A1 a.length c1) (a2 := .slice (some ⟨bb, ob, none⟩) b.length c2) (z := z) (t := 33) (.int .i64 ((j : Int) + 1)) hBx (by decide) (by decide) (E.Kp.refl _ _ W) (KeepsFrom.refl _ _) hg hW6 hs hop hj hgrow3 hown3 hnew3
                  have cj3 : _ = some (Value.int .i64 (j : Int)) := j3.cell
                  have fj3 := j3.frozen
                  try go_simp
                  refine hK _ _ ?_; clear hK K
                  refine wpAnyIn_ready (rs := [11]) (by kernel_rfl) (by simp) ?_
                  refine AllReadyIn.cons rfl (fun K hK => ?_) AllReadyIn.nil
                  go_simp; refine hK _ _ ?_; clear hK K
                  refine wpAnyIn_ready (rs := [12]) (by kernel_rfl) (by simp) ?_
                  refine AllReadyIn.cons rfl (fun K hK => ?_) AllReadyIn.nil
                  go_simp; refine hK _ _ ?_; clear hK K
                  refine wpAnyIn_ready (rs := [13]) (by kernel_rfl) (by simp) ?_
                  refine AllReadyIn.cons rfl (fun K hK => ?_) AllReadyIn.nil
                  go_simp; refine hK _ _ ?_; clear hK K
                  refine wpAnyIn_done (by kernel_rfl) ?_ _
                  gi_wp2
                  exact ⟨fin.1, fin.2.1, fin.2.2.1, _, _, fin.2.2.2.1, by rw [hsn, ← hes]; simp [E.modLast_snoc], by rw [hsn]; exact fin.2.2.2.2.1, by rw [hsn]; exact fin.2.2.2.2.2⟩
                refine AllReadyIn.cons rfl (fun K hK => ?_) ?_
                · go_simp; refine hK _ _ ?_; clear hK K
                  refine wpAnyIn_ready (rs := [4, 9]) (by kernel_rfl) (by simp) ?_
                  refine AllReadyIn.cons rfl (fun K hK => ?_) ?_
                  · go_simp; refine hK _ _ ?_; clear hK K
                    refine wpAnyIn_ready (rs := [9]) (by kernel_rfl) (by simp) ?_
                    refine AllReadyIn.cons rfl (fun K hK => ?_) AllReadyIn.nil
                    go_simp; refine hK _ _ ?_; clear hK K
                    refine wpAnyIn_ready (rs := [10]) (by kernel_rfl) (by simp) ?_
                    refine AllReadyIn.cons rfl (fun K hK => ?_) AllReadyIn.nil
                    refine stepIn_append_any rfl rfl (.tmp 45) (.tmp 50) 22 rfl (Bx + 6) 33 i0 _ 3 32 Try.underlying22 hi hz0 hz1 hz2 rfl (by decide) xl.sl _ _ rfl (hins.alloc _) _ _ 1 1 z.cells rfl (reads_glyph W z 33) (by simp [Value.oneCell', R.G.cells]) (by unfold maxLen; omega) (by omega) (by simp; omega) ?_
                    intro u W3 hown3 hgrow3 hnew3
                    obtain ⟨gg, cap', rfl⟩ := ownsRow_succ hown3
                    obtain ⟨⟨f3, c3, j3⟩, fin⟩ := E.ins_fin (B0 := Bx + 6) (TS := 22) (w := w) (a1 := .slice A1 a.length c1) (a2 := .slice (some ⟨bb, ob, none⟩) b.length c2) (z := z) (t := 33) (.int .i64 ((j : Int) + 1)) hBx (by decide) (by decide) (E.Kp.refl _ _ W) (KeepsFrom.refl _ _) hg hW6 hs hop hj hgrow3 hown3 hnew3
                    have cj3 : _ = some (Value.int .i64 (j : Int)) := j3.cell
                    have fj3 := j3.frozen
                    try go_simp
                    refine hK _ _ ?_; clear hK K
                    refine wpAnyIn_ready (rs := [11]) (by kernel_rfl) (by simp) ?_
                    refine AllReadyIn.cons rfl (fun K hK => ?_) AllReadyIn.nil
                    go_simp; refine hK _ _ ?_; clear hK K
                    refine wpAnyIn_ready (rs := [12]) (by kernel_rfl) (by simp) ?_
                    refine AllReadyIn.cons rfl (fun K hK => ?_) AllReadyIn.nil
                    go_simp; refine hK _ _ ?_; clear hK K
                    refine wpAnyIn_ready (rs := [13]) (by kernel_rfl) (by simp) ?_
                    refine AllReadyIn.cons rfl (fun K hK => ?_) AllReadyIn.nil
                    go_simp; refine hK _ _ ?_; clear hK K
                    refine wpAnyIn_done (by kernel_rfl) ?_ _
                    gi_wp2
                    exact ⟨fin.1, fin.2.1, fin.2.2.1, _, _, fin.2.2.2.1, by rw [hsn, ← hes]; simp [E.modLast_snoc], by rw [hsn]; exact fin.2.2.2.2.1, by rw [hsn]; exact fin.2.2.2.2.2⟩
                  refine AllReadyIn.cons rfl (fun K hK => ?_) ?_
                  · go_simp; refine hK _ _ ?_; clear hK K
                    refine wpAnyIn_ready (rs := [4]) (by kernel_rfl) (by simp) ?_
                    refine AllReadyIn.cons rfl (fun K hK => ?_) AllReadyIn.nil
                    go_simp; refine hK _ _ ?_; clear hK K
                    refine wpAnyIn_ready (rs := [10]) (by kernel_rfl) (by simp) ?_
                    refine AllReadyIn.cons rfl (fun K hK => ?_) AllReadyIn.nil
                    refine stepIn_append_any rfl rfl (.tmp 45) (.tmp 50) 22 rfl (Bx + 6) 33 i0 _ 3 32 Try.underlying22 hi hz0 hz1 hz2 rfl (by decide) xl.sl _ _ rfl (hins.alloc _) _ _ 1 1 z.cells rfl (reads_glyph W z 33) (by simp [Value.oneCell', R.G.cells]) (by unfold maxLen; omega) (by omega) (by simp; omega) ?_
                    intro u W3 hown3 hgrow3 hnew3
                    obtain ⟨gg, cap', rfl⟩ := ownsRow_succ hown3
                    obtain ⟨⟨f3, c3, j3⟩, fin⟩ := E.ins_fin (B0 := Bx + 6) (TS := 22) (w := w) (a1 := .slice A1 a.length c1) (a2 := .slice (some ⟨bb, ob, none⟩) b.length c2) (z := z) (t := 33) (.int .i64 ((j : Int) + 1)) hBx (by decide) (by decide) (E.Kp.refl _ _ W) (KeepsFrom.refl _ _) hg hW6 hs hop hj hgrow3 hown3 hnew3
                    have cj3 : _ = some (Value.int .i64 (j : Int)) := j3.cell
                    have fj3 := j3.frozen
                    try go_simp
                    refine hK _ _ ?_; clear hK K
                    refine wpAnyIn_ready (rs := [11]) (by kernel_rfl) (by simp) ?_
                    refine AllReadyIn.cons rfl (fun K hK => ?_) AllReadyIn.nil
                    go_simp; refine hK _ _ ?_; clear hK K
                    refine wpAnyIn_ready (rs := [12]) (by kernel_rfl) (by simp) ?_
                    refine AllReadyIn.cons rfl (fun K hK => ?_) AllReadyIn.nil
                    go_simp; refine hK _ _ ?_; clear hK K
                    refine wpAnyIn_ready (rs := [13]) (by kernel_rfl) (by simp) ?_
                    refine AllReadyIn.cons rfl (fun K hK => ?_) AllReadyIn.nil
                    go_simp; refine hK _ _ ?_; clear hK K
                    refine wpAnyIn_done (by kernel_rfl) ?_ _
                    gi_wp2
                    exact ⟨fin.1, fin.2.1, fin.2.2.1, _, _, fin.2.2.2.1, by rw [hsn, ← hes]; simp [E.modLast_snoc], by rw [hsn]; exact fin.2.2.2.2.1, by rw [hsn]; exact fin.2.2.2.2.2⟩
                  exact AllReadyIn.nil
                exact AllReadyIn.nil
              exact AllReadyIn.nil
            exact AllReadyIn.nil
          refine AllReadyIn.cons rfl (fun K hK => ?_) ?_
          · go_simp; refine hK _ _ ?_; clear hK K
            refine wpAnyIn_ready (rs := [4, 5]) (by kernel_rfl) (by simp) ?_
            refine AllReadyIn.cons rfl (fun K hK => ?_) ?_
            · go_simp; refine hK _ _ ?_; clear hK K
              refine wpAnyIn_ready (rs := [5]) (by kernel_rfl) (by simp) ?_
              refine AllReadyIn.cons rfl (fun K hK => ?_) AllReadyIn.nil
              go_simp; refine hK _ _ ?_; clear hK K
              refine wpAnyIn_ready (rs := [7]) (by kernel_rfl) (by simp) ?_
              refine AllReadyIn.cons rfl (fun K hK => ?_) AllReadyIn.nil
              go_simp; refine hK _ _ ?_; clear hK K
              refine wpAnyIn_ready (rs := [8]) (by kernel_rfl) (by simp) ?_
              refine AllReadyIn.cons rfl (fun K hK => ?_) AllReadyIn.nil
              go_simp; refine hK _ _ ?_; clear hK K
              refine wpAnyIn_ready (rs := [9]) (by kernel_rfl) (by simp) ?_
              refine AllReadyIn.cons rfl (fun K hK => ?_) AllReadyIn.nil
              go_simp; refine hK _ _ ?_; clear hK K
              refine wpAnyIn_ready (rs := [10]) (by kernel_rfl) (by simp) ?_
              refine AllReadyIn.cons rfl (fun K hK => ?_) AllReadyIn.nil
              refine stepIn_append_any rfl rfl (.tmp 45) (.tmp 50) 22 rfl (Bx + 6) 33 i0 _ 3 32 Try.underlying22 hi hz0 hz1 hz2 rfl (by decide) xl.sl _ _ rfl (hins.alloc _) _ _ 1 1 z.cells rfl (reads_glyph W z 33) (by simp [Value.oneCell', R.G.cells]) (by unfold maxLen; omega) (by omega) (by simp; omega) ?_
              intro u W3 hown3 hgrow3 hnew3
              obtain ⟨gg, cap', rfl⟩ := ownsRow_succ hown3
              obtain ⟨⟨f3, c3, j3⟩, fin⟩ := E.ins_fin (B0 := Bx + 6) (TS := 22) (w := w) (a1 := .slice A1 a.length c1) (a2 := .slice (some ⟨bb, ob, none⟩) b.length c2) (z := z) (t := 33) (.int .i64 ((j : Int) + 1)) hBx (by decide) (by decide) (E.Kp.refl _ _ W) (KeepsFrom.refl _ _) hg hW6 hs hop hj hgrow3 hown3 hnew3
              have cj3 : _ = some (Value.int .i64 (j : Int)) := j3.cell
              have fj3 := j3.frozen
              try go_simp
              refine hK _ _ ?_; clear hK K
              refine wpAnyIn_ready (rs := [11]) (by kernel_rfl) (by simp) ?_
              refine AllReadyIn.cons rfl (fun K hK => ?_) AllReadyIn.nil
              go_simp; refine hK _ _ ?_; clear hK K
              refine wpAnyIn_ready (rs := [12]) (by kernel_rfl) (by simp) ?_
              refine AllReadyIn.cons rfl (fun K hK => ?_) AllReadyIn.nil
              go_simp; refine hK _ _ ?_; clear hK K
              refine wpAnyIn_ready (rs := [13]) (by kernel_rfl) (by simp) ?_
              refine AllReadyIn.cons rfl (fun K hK => ?_) AllReadyIn.nil
              go_simp; refine hK _ _ ?_; clear hK K
              refine wpAnyIn_done (by kernel_rfl) ?_ _
              gi_wp2
              exact ⟨fin.1, fin.2.1, fin.2.2.1, _, _, fin.2.2.2.1, by rw [hsn, ← hes]; simp [E.modLast_snoc], by rw [hsn]; exact fin.2.2.2.2.1, by rw [hsn]; exact fin.2.2.2.2.2⟩
            refine AllReadyIn.cons rfl (fun K hK => ?_) ?_
            · go_simp; refine hK _ _ ?_; clear hK K
              refine wpAnyIn_ready (rs := [4, 7]) (by kernel_rfl) (by simp) ?_
              refine AllReadyIn.cons rfl (fun K hK => ?_) ?_
              · go_simp; refine hK _ _ ?_; clear hK K
                refine wpAnyIn_ready (rs := [7]) (by kernel_rfl) (by simp) ?_
                refine AllReadyIn.cons rfl (fun K hK => ?_) AllReadyIn.nil
                go_simp; refine hK _ _ ?_; clear hK K
                refine wpAnyIn_ready (rs := [8]) (by kernel_rfl) (by simp) ?_
                refine AllReadyIn.cons rfl (fun K hK => ?_) AllReadyIn.nil
                go_simp; refine hK _ _ ?_; clear hK K
                refine wpAnyIn_ready (rs := [9]) (by kernel_rfl) (by simp) ?_
                refine AllReadyIn.cons rfl (fun K hK => ?_) AllReadyIn.nil
                go_simp; refine hK _ _ ?_; clear hK K
                refine wpAnyIn_ready (rs := [10]) (by kernel_rfl) (by simp) ?_
                refine AllReadyIn.cons rfl (fun K hK => ?_) AllReadyIn.nil
                refine stepIn_append_any rfl rfl (.tmp 45) (.tmp 50) 22 rfl (Bx + 6) 33 i0 _ 3 32 Try.underlying22 hi hz0 hz1 hz2 rfl (by decide) xl.sl _ _ rfl (hins.alloc _) _ _ 1 1 z.cells rfl (reads_glyph W z 33) (by simp [Value.oneCell', R.G.cells]) (by unfold maxLen; omega) (by omega) (by simp; omega) ?_
                intro u W3 hown3 hgrow3 hnew3
                obtain ⟨gg, cap', rfl⟩ := ownsRow_succ hown3
                obtain ⟨⟨f3, c3, j3⟩, fin⟩ := E.ins_fin (B0 := Bx + 6) (TS := 22) (w := w) (a1 := .slice A1 a.length c1) (a2 := .slice (some ⟨bb, ob, none⟩) b.length c2) (z := z) (t := 33) (.int .i64 ((j : Int) + 1)) hBx (by decide) (by decide) (E.Kp.refl _ _ W) (KeepsFrom.refl _ _) hg hW6 hs hop hj hgrow3 hown3 hnew3
                have cj3 : _ = some (Value.int .i64 (j : Int)) := j3.cell
                have fj3 := j3.frozen
                try go_simp
                refine hK _ _ ?_; clear hK K
                refine wpAnyIn_ready (rs := [11]) (by kernel_rfl) (by simp) ?_
                refine AllReadyIn.cons rfl (fun K hK => ?_) AllReadyIn.nil
                go_simp; refine hK _ _ ?_; clear hK K
                refine wpAnyIn_ready (rs := [12]) (by kernel_rfl) (by simp) ?_
                refine AllReadyIn.cons rfl (fun K hK => ?_) AllReadyIn.nil
                go_simp; refine hK _ _ ?_; clear hK K
                refine wpAnyIn_ready (rs := [13]) (by kernel_rfl) (by simp) ?_
                refine AllReadyIn.cons rfl (fun K hK => ?_) AllReadyIn.nil
                go_simp; refine hK _ _ ?_; clear hK K
                refine wpAnyIn_done (by kernel_rfl) ?_ _
                gi_wp2
                exact ⟨fin.1, fin.2.1, fin.2.2.1, _, _, fin.2.2.2.1, by rw [hsn, ← hes]; simp [E.modLast_snoc], by rw [hsn]; exact fin.2.2.2.2.1, by rw [hsn]; exact fin.2.2.2.2.2⟩
              refine AllReadyIn.cons rfl (fun K hK => ?_) ?_
              · go_simp; refine hK _ _ ?_; clear hK K
                refine wpAnyIn_ready (rs := [4, 8]) (by kernel_rfl) (by simp) ?_
                refine AllReadyIn.cons rfl (fun K hK => ?_) ?_
                · go_simp; refine hK _ _ ?_; clear hK K
                  refine wpAnyIn_ready (rs := [8]) (by kernel_rfl) (by simp) ?_
                  refine AllReadyIn.cons rfl (fun K hK => ?_) AllReadyIn.nil
                  go_simp; refine hK _ _ ?_; clear hK K
                  refine wpAnyIn_ready (rs := [9]) (by kernel_rfl) (by simp) ?_
                  refine AllReadyIn.cons rfl (fun K hK => ?_) AllReadyIn.nil
                  go_simp; refine hK _ _ ?_; clear hK K
                  refine wpAnyIn_ready (rs := [10]) (by kernel_rfl) (by simp) ?_
                  refine AllReadyIn.cons rfl (fun K hK => ?_) AllReadyIn.nil
                  refine stepIn_append_any rfl rfl (.tmp 45) (.tmp 50) 22 rfl (Bx + 6) 33 i0 _ 3 32 Try.underlying22 hi hz0 hz1 hz2 rfl (by decide) xl.sl _ _ rfl (hins.alloc _) _ _ 1 1 z.cells rfl (reads_glyph W z 33) (by simp [Value.oneCell', R.G.cells]) (by unfold maxLen; omega) (by omega) (by simp; omega) ?_
                  intro u W3 hown3 hgrow3 hnew3
                  obtain ⟨gg, cap', rfl⟩ := ownsRow_succ hown3
                  obtain ⟨⟨f3, c3, j3⟩, fin⟩ := E.ins_fin (B0 := Bx + 6) (TS := 22) (w := w) (a1 := .slice A1 a.length c1) (a2 := .slice (some ⟨bb, ob, none⟩) b.length c2) (z := z) (t := 33) (.int .i64 ((j : Int) + 1)) hBx (by decide) (by decide) (E.Kp.refl _ _ W) (KeepsFrom.refl _ _) hg hW6 hs hop hj hgrow3 hown3 hnew3
                  have cj3 : _ = some (Value.int .i64 (j : Int)) := j3.cell
                  have fj3 := j3.frozen
                  try go_simp
                  refine hK _ _ ?_; clear hK K
                  refine wpAnyIn_ready (rs := [11]) (by kernel_rfl) (by simp) ?_
                  refine AllReadyIn.cons rfl (fun K hK => ?_) AllReadyIn.nil
                  go_simp; refine hK _ _ ?_; clear hK K
                  refine wpAnyIn_ready (rs := [12]) (by kernel_rfl) (by simp) ?_
                  refine AllReadyIn.cons rfl (fun K hK => ?_) AllReadyIn.nil
                  go_simp; refine hK _ _ ?_; clear hK K
                  refine wpAnyIn_ready (rs := [13]) (by kernel_rfl) (by simp) ?_
                  refine AllReadyIn.cons rfl (fun K hK => ?_) AllReadyIn.nil
                  go_simp; refine hK _ _ ?_; clear hK K
                  refine wpAnyIn_done (by kernel_rfl) ?_ _
                  gi_wp2
                  exact ⟨fin.1, fin.2.1, fin.2.2.1, _, _, fin.2.2.2.1, by rw [hsn, ← hes]; simp [E.modLast_snoc], by rw [hsn]; exact fin.2.2.2.2.1, by rw [hsn]; exact fin.2.2.2.2.2⟩
                refine AllReadyIn.cons rfl (fun K hK => ?_) ?_
                · go_simp; refine hK _ _ ?_; clear hK K
                  refine wpAnyIn_ready (rs := [4, 9]) (by kernel_rfl) (by simp) ?_
                  refine AllReadyIn.cons rfl (fun K hK => ?_) ?_
                  · go_simp; refine hK _ _ ?_; clear hK K
                    refine wpAnyIn_ready (rs := [9]) (by kernel_rfl) (by simp) ?_
                    refine AllReadyIn.cons rfl (fun K hK => ?_) AllReadyIn.nil
                    go_simp; refine hK _ _ ?_; clear hK K
                    refine wpAnyIn_ready (rs := [10]) (by kernel_rfl) (by simp) ?_
                    refine AllReadyIn.cons rfl (fun K hK => ?_) AllReadyIn.nil
                    refine stepIn_append_any rfl rfl (.tmp 45) (.tmp 50) 22 rfl (Bx + 6) 33 i0 _ 3 32 Try.underlying22 hi hz0 hz1 hz2 rfl (by decide) xl.sl _ _ rfl (hins.alloc _) _ _ 1 1 z.cells rfl (reads_glyph W z 33) (by simp [Value.oneCell', R.G.cells]) (by unfold maxLen; omega) (by omega) (by simp; omega) ?_
                    intro u W3 hown3 hgrow3 hnew3
                    obtain ⟨gg, cap', rfl⟩ := ownsRow_succ hown3
                    obtain ⟨⟨f3, c3, j3⟩, fin⟩ := E.ins_fin (B0 := Bx + 6) (TS := 22) (w := w) (a1 := .slice A1 a.length c1) (a2 := .slice (some ⟨bb, ob, none⟩) b.length c2) (z := z) (t := 33) (.int .i64 ((j : Int) + 1)) hBx (by decide) (by decide) (E.Kp.refl _ _ W) (KeepsFrom.refl _ _) hg hW6 hs hop hj hgrow3 hown3 hnew3
                    have cj3 : _ = some (Value.int .i64 (j : Int)) := j3.cell
                    have fj3 := j3.frozen
                    try go_simp
                    refine hK _ _ ?_; clear hK K
                    refine wpAnyIn_ready (rs := [11]) (by kernel_rfl) (by simp) ?_
                    refine AllReadyIn.cons rfl (fun K hK => ?_) AllReadyIn.nil
                    go_simp; refine hK _ _ ?_; clear hK K
                    refine wpAnyIn_ready (rs := [12]) (by kernel_rfl) (by simp) ?_
                    refine AllReadyIn.cons rfl (fun K hK => ?_) AllReadyIn.nil
                    go_simp; refine hK _ _ ?_; clear hK K
                    refine wpAnyIn_ready (rs := [13]) (by kernel_rfl) (by simp) ?_
                    refine AllReadyIn.cons rfl (fun K hK => ?_) AllReadyIn.nil
                    go_simp; refine hK _ _ ?_; clear hK K
                    refine wpAnyIn_done (by kernel_rfl) ?_ _
                    gi_wp2
                    exact ⟨fin.1, fin.2.1, fin.2.2.1, _, _, fin.2.2.2.1, by rw [hsn, ← hes]; simp [E.modLast_snoc], by rw [hsn]; exact fin.2.2.2.2.1, by rw [hsn]; exact fin.2.2.2.2.2⟩
                  refine AllReadyIn.cons rfl (fun K hK => ?_) ?_
                  · go_simp; refine hK _ _ ?_; clear hK K
                    refine wpAnyIn_ready (rs := [4]) (by kernel_rfl) (by simp) ?_
                    refine AllReadyIn.cons rfl (fun K hK => ?_) AllReadyIn.nil
                    go_simp; refine hK _ _ ?_; clear hK K
                    refine wpAnyIn_ready (rs := [10]) (by kernel_rfl) (by simp) ?_
                    refine AllReadyIn.cons rfl (fun K hK => ?_) AllReadyIn.nil
                    refine stepIn_append_any rfl rfl (.tmp 45) (.tmp 50) 22 rfl (Bx + 6) 33 i0 _ 3 32 Try.underlying22 hi hz0 hz1 hz2 rfl (by decide) xl.sl _ _ rfl (hins.alloc _) _ _ 1 1 z.cells rfl (reads_glyph W z 33) (by simp [Value.oneCell', R.G.cells]) (by unfold maxLen; omega) (by omega) (by simp; omega) ?_
                    intro u W3 hown3 hgrow3 hnew3
                    obtain ⟨gg, cap', rfl⟩ := ownsRow_succ hown3
                    obtain ⟨⟨f3, c3, j3⟩, fin⟩ := E.ins_fin (B0 := Bx + 6) (TS := 22) (w := w) (a1 := .slice A1 a.length c1) (a2 := .slice (some ⟨bb, ob, none⟩) b.length c2) (z := z) (t := 33) (.int .i64 ((j : Int) + 1)) hBx (by decide) (by decide) (E.Kp.refl _ _ W) (KeepsFrom.refl _ _) hg hW6 hs hop hj hgrow3 hown3 hnew3
                    have cj3 : _ = some (Value.int .i64 (j : Int)) := j3.cell
                    have fj3 := j3.frozen
                    try go_simp
                    refine hK _ _ ?_; clear hK K
                    refine wpAnyIn_ready (rs := [11]) (by kernel_rfl) (by simp) ?_
                    refine AllReadyIn.cons rfl (fun K hK => ?_) AllReadyIn.nil
                    go_simp; refine hK _ _ ?_; clear hK K
                    refine wpAnyIn_ready (rs := [12]) (by kernel_rfl) (by simp) ?_
                    refine AllReadyIn.cons rfl (fun K hK => ?_) AllReadyIn.nil
                    go_simp; refine hK _ _ ?_; clear hK K
                    refine wpAnyIn_ready (rs := [13]) (by kernel_rfl) (by simp) ?_
                    refine AllReadyIn.cons rfl (fun K hK => ?_) AllReadyIn.nil
                    go_simp; refine hK _ _ ?_; clear hK K
                    refine wpAnyIn_done (by kernel_rfl) ?_ _
                    gi_wp2
                    exact ⟨fin.1, fin.2.1, fin.2.2.1, _, _, fin.2.2.2.1, by rw [hsn, ← hes]; simp [E.modLast_snoc], by rw [hsn]; exact fin.2.2.2.2.1, by rw [hsn]; exact fin.2.2.2.2.2⟩
                  exact AllReadyIn.nil
                exact AllReadyIn.nil
              exact AllReadyIn.nil
            exact AllReadyIn.nil
          exact AllReadyIn.nil
      | false =>
        · -- an insertion, a new edit
          rw [E.sstep_2] at hsn
          have u1 : IntKind.i64.wrap ((j : Int) + 1) = (j : Int) + 1 := by simp [IntKind.wrap, IntKind.bits, IntKind.signed]; omega
          have q3 : (0 : Int) ≤ (j : Int) := by omega
          have q4 : (j : Int) < (b.length : Int) := by omega
          obtain ⟨bb, ob, rfl, hbb, hcb⟩ := (hb.below hg.2.2.2.1 (by omega)).gl (by omega)
          obtain ⟨y0, ya, yb⟩ := hcb j h2
          rw [← getD_at (d := default) h2] at y0 ya yb
          have cB := hg.1.cell
          have hbB : bb < Bx := by omega
          clear hcb
          generalize b.getD j default = z at hsn y0 ya yb
          have cv1 := hs.box.cell
          have u2 : IntKind.i64.wrap ((es.length : Int) + 1 - 1) = (es.length : Int) := by have := hlow.1; rw [← hes] at this; simp at this; simp [IntKind.wrap, IntKind.bits, IntKind.signed]; omega
          have u3 : IntKind.i64.wrap (es.length : Int) = (es.length : Int) := by have := hlow.1; rw [← hes] at this; simp at this; simp [IntKind.wrap, IntKind.bits, IntKind.signed]; omega
          have q1 : (0 : Int) ≤ (es.length : Int) := by omega
          have q2 : (es.length : Int) < (es.length : Int) + 1 := by omega
          have hel : es.length ≤ 2000 := by have := hlow.1; rw [← hes] at this; simp at this; omega
          have hins : ∀ W' : World, W'.ownsRow (Bx + 6) 33 3 (.slice none 0 0) 0 [] := fun W' => World.ownsRow_nil _ _ _ _
          clear hopn hG1
          gi_wp2_with (gi_at_builtin; refine listIn_append_any rfl (.tmp 22) (.tmp 25) 46 rfl (Bx + 6) 49 iE _ 3 40 Try.underlying46 hiE hE0 hE1 hE2 rfl (by decide) v _ _ rfl (hs.eds.own.alloc _) _ _ 1 1 [.int .i64 i, .int .i64 0, .slice none 0 0] rfl (reads_block W [.int .i64 i, .int .i64 0, .slice none 0 0] 49 3 1 rfl) (by simp [Value.oneCell', R.G.cells]) (by unfold maxLen; omega) (by omega) (by simp; omega) ?_; intro v' W2 hown' hgrow hnew; obtain ⟨g, cap, rfl⟩ := ownsRow_succ hown'; obtain ⟨⟨b1, o1⟩, hkf, hka, hx6a, sa, oa, ja⟩ := E.push_fin (B0 := Bx + 6) (TS := 22) (w := w) (a1 := .slice A1 a.length c1) (a2 := .slice (some ⟨bb, ob, none⟩) b.length c2) (e := ⟨i, 0, []⟩) (.bool true) hBx (by decide) (by decide) hs hW6 hop hj rfl hgrow hown' hnew; have cb1 := b1.cell; have fb1 := b1.frozen; have co1 := o1.cell; have fo1 := o1.frozen; have cva := sa.box.cell; obtain ⟨cda, csla, fda, fsla⟩ := sa.last; have hgWa := hka.1 hg; have za := ((hgWa.2.2.2.1).cell (p := ⟨bb, ob + j * 3, none⟩) hbB).trans ((((hg.2.2.2.1).cell (p := ⟨bb, ob + j * 3, none⟩) hbB)).symm.trans y0); have zb := ((hgWa.2.2.2.1).cell (p := ⟨bb, ob + j * 3 + 1, none⟩) hbB).trans ((((hg.2.2.2.1).cell (p := ⟨bb, ob + j * 3 + 1, none⟩) hbB)).symm.trans ya); have zc := ((hgWa.2.2.2.1).cell (p := ⟨bb, ob + j * 3 + 2, none⟩) hbB).trans ((((hg.2.2.2.1).cell (p := ⟨bb, ob + j * 3 + 2, none⟩) hbB)).symm.trans yb); have cBa := hgWa.1.cell; have cja : _ = some (Value.int .i64 (j : Int)) := ja.cell; have csla2 := (World.cell?_alloc_lt _ (.cells #[.string z.t, .bool z.wd, .int .i64 z.st] 33) ⟨g, es.length * 3 + 2, none⟩ (sa.lt (.inl rfl)).2).trans csla; have hx6b : Bx + 6 ≤ W2.heap.size := by simpa using hx6a)
          refine region_round (by kernel_rfl) (by kernel_rfl) ?_
          refine wpAnyIn_take (i := 0) (v := ?vn0) rfl rfl (by kernel_rfl) (by kernel_rfl) (by kernel_rfl) (fun _ _ _ h => h) ⟨Or.inl ⟨by rfl, ?yn0⟩, fun _ => rfl⟩ ?rn0
          case yn0 => (intro w; go_simp; try (with_reducible rfl))
          refine wpAnyIn_take (i := 1) (v := ?vn1) rfl rfl (by kernel_rfl) (by kernel_rfl) (by kernel_rfl) (fun _ _ _ h => h) ⟨Or.inl ⟨by rfl, ?yn1⟩, fun _ => rfl⟩ ?rn1
          case yn1 => (intro w; go_simp; try (with_reducible rfl))
          refine wpAnyIn_take (i := 2) (v := ?vn2) rfl rfl (by kernel_rfl) (by kernel_rfl) (by kernel_rfl) (fun _ _ _ h => h) ⟨Or.inl ⟨by rfl, ?yn2⟩, fun _ => rfl⟩ ?rn2
          case yn2 => (intro w; go_simp; try (with_reducible rfl))
          refine wpAnyIn_take (i := 3) (v := ?vn3) rfl rfl (by kernel_rfl) (by kernel_rfl) (by kernel_rfl) (fun _ _ _ h => h) ⟨Or.inl ⟨by rfl, ?yn3⟩, fun _ => rfl⟩ ?rn3
          case yn3 => (intro w; go_simp; try (with_reducible rfl))
          refine wpAnyIn_ready (rs := [4, 5, 6]) (by kernel_rfl) (by simp) ?_
          refine AllReadyIn.cons rfl (fun K hK => ?_) ?_
          · go_simp; refine hK _ _ ?_; clear hK K
            refine wpAnyIn_ready (rs := [5, 6]) (by kernel_rfl) (by simp) ?_
            refine AllReadyIn.cons rfl (fun K hK => ?_) ?_
            · go_simp; refine hK _ _ ?_; clear hK K
              refine wpAnyIn_ready (rs := [6]) (by kernel_rfl) (by simp) ?_
              refine AllReadyIn.cons rfl (fun K hK => ?_) AllReadyIn.nil
              go_simp; refine hK _ _ ?_; clear hK K
              refine wpAnyIn_ready (rs := [7]) (by kernel_rfl) (by simp) ?_
              refine AllReadyIn.cons rfl (fun K hK => ?_) AllReadyIn.nil
              go_simp; refine hK _ _ ?_; clear hK K
              refine wpAnyIn_ready (rs := [8]) (by kernel_rfl) (by simp) ?_
              refine AllReadyIn.cons rfl (fun K hK => ?_) AllReadyIn.nil
              go_simp; refine hK _ _ ?_; clear hK K
              refine wpAnyIn_ready (rs := [9]) (by kernel_rfl) (by simp) ?_
              refine AllReadyIn.cons rfl (fun K hK => ?_) AllReadyIn.nil
              go_simp; refine hK _ _ ?_; clear hK K
              refine wpAnyIn_ready (rs := [10]) (by kernel_rfl) (by simp) ?_
              refine AllReadyIn.cons rfl (fun K hK => ?_) AllReadyIn.nil
              refine stepIn_append_any rfl rfl (.tmp 45) (.tmp 50) 22 rfl (Bx + 6) 33 i0 _ 3 32 Try.underlying22 hi hz0 hz1 hz2 rfl (by decide) (.slice none 0 0) _ _ rfl (hins _) _ _ 1 1 z.cells rfl (reads_glyph_at ((W2.setCell ⟨Bx + 1, 0, none⟩ (.slice (some ⟨g, 0, none⟩) (es.length + 1) cap)).setCell ⟨Bx + 1 + 1, 0, none⟩ (.bool true)) z 33 (by simp)) (by simp [Value.oneCell', R.G.cells]) (by unfold maxLen; omega) (by omega) (by simp; omega) ?_
              intro u W3 hown3 hgrow3 hnew3
              obtain ⟨gg, cap', rfl⟩ := ownsRow_succ hown3
              obtain ⟨⟨f3, c3, j3⟩, fin⟩ := E.ins_fin (B0 := Bx + 6) (TS := 22) (w := w) (a1 := .slice A1 a.length c1) (a2 := .slice (some ⟨bb, ob, none⟩) b.length c2) (z := z) (t := 33) (.int .i64 ((j : Int) + 1)) hBx (by decide) (by decide) hka hkf hg hx6a sa oa ja hgrow3 hown3 hnew3
              have cj3 : _ = some (Value.int .i64 (j : Int)) := j3.cell
              have fj3 := j3.frozen
              try go_simp
              refine hK _ _ ?_; clear hK K
              refine wpAnyIn_ready (rs := [11]) (by kernel_rfl) (by simp) ?_
              refine AllReadyIn.cons rfl (fun K hK => ?_) AllReadyIn.nil
              go_simp; refine hK _ _ ?_; clear hK K
              refine wpAnyIn_ready (rs := [12]) (by kernel_rfl) (by simp) ?_
              refine AllReadyIn.cons rfl (fun K hK => ?_) AllReadyIn.nil
              go_simp; refine hK _ _ ?_; clear hK K
              refine wpAnyIn_ready (rs := [13]) (by kernel_rfl) (by simp) ?_
              refine AllReadyIn.cons rfl (fun K hK => ?_) AllReadyIn.nil
              go_simp; refine hK _ _ ?_; clear hK K
              refine wpAnyIn_done (by kernel_rfl) ?_ _
              gi_wp2
              exact ⟨fin.1, fin.2.1, fin.2.2.1, _, _, fin.2.2.2.1, by rw [hsn, ← hes]; simp [E.modLast_snoc], by rw [hsn]; exact fin.2.2.2.2.1, by rw [hsn]; exact fin.2.2.2.2.2⟩
            refine AllReadyIn.cons rfl (fun K hK => ?_) ?_
            · go_simp; refine hK _ _ ?_; clear hK K
              refine wpAnyIn_ready (rs := [5]) (by kernel_rfl) (by simp) ?_
              refine AllReadyIn.cons rfl (fun K hK => ?_) AllReadyIn.nil
              go_simp; refine hK _ _ ?_; clear hK K
              refine wpAnyIn_ready (rs := [7]) (by kernel_rfl) (by simp) ?_
              refine AllReadyIn.cons rfl (fun K hK => ?_) AllReadyIn.nil
              go_simp; refine hK _ _ ?_; clear hK K
              refine wpAnyIn_ready (rs := [8]) (by kernel_rfl) (by simp) ?_
              refine AllReadyIn.cons rfl (fun K hK => ?_) AllReadyIn.nil
              go_simp; refine hK _ _ ?_; clear hK K
              refine wpAnyIn_ready (rs := [9]) (by kernel_rfl) (by simp) ?_
              refine AllReadyIn.cons rfl (fun K hK => ?_) AllReadyIn.nil
              go_simp; refine hK _ _ ?_; clear hK K
              refine wpAnyIn_ready (rs := [10]) (by kernel_rfl) (by simp) ?_
              refine AllReadyIn.cons rfl (fun K hK => ?_) AllReadyIn.nil
              refine stepIn_append_any rfl rfl (.tmp 45) (.tmp 50) 22 rfl (Bx + 6) 33 i0 _ 3 32 Try.underlying22 hi hz0 hz1 hz2 rfl (by decide) (.slice none 0 0) _ _ rfl (hins _) _ _ 1 1 z.cells rfl (reads_glyph_at ((W2.setCell ⟨Bx + 1, 0, none⟩ (.slice (some ⟨g, 0, none⟩) (es.length + 1) cap)).setCell ⟨Bx + 1 + 1, 0, none⟩ (.bool true)) z 33 (by simp)) (by simp [Value.oneCell', R.G.cells]) (by unfold maxLen; omega) (by omega) (by simp; omega) ?_
              intro u W3 hown3 hgrow3 hnew3
              obtain ⟨gg, cap', rfl⟩ := ownsRow_succ hown3
              obtain ⟨⟨f3, c3, j3⟩, fin⟩ := E.ins_fin (B0 := Bx + 6) (TS := 22) (w := w) (a1 := .slice A1 a.length c1) (a2 := .slice (some ⟨bb, ob, none⟩) b.length c2) (z := z) (t := 33) (.int .i64 ((j : Int) + 1)) hBx (by decide) (by decide) hka hkf hg hx6a sa oa ja hgrow3 hown3 hnew3
              have cj3 : _ = some (Value.int .i64 (j : Int)) := j3.cell
              have fj3 := j3.frozen
              try go_simp
              refine hK _ _ ?_; clear hK K
              refine wpAnyIn_ready (rs := [11]) (by kernel_rfl) (by simp) ?_
              refine AllReadyIn.cons rfl (fun K hK => ?_) AllReadyIn.nil
              go_simp; refine hK _ _ ?_; clear hK K
              refine wpAnyIn_ready (rs := [12]) (by kernel_rfl) (by simp) ?_
              refine AllReadyIn.cons rfl (fun K hK => ?_) AllReadyIn.nil
              go_simp; refine hK _ _ ?_; clear hK K
              refine wpAnyIn_ready (rs := [13]) (by kernel_rfl) (by simp) ?_
              refine AllReadyIn.cons rfl (fun K hK => ?_) AllReadyIn.nil
              go_simp; refine hK _ _ ?_; clear hK K
              refine wpAnyIn_done (by kernel_rfl) ?_ _
              gi_wp2
              exact ⟨fin.1, fin.2.1, fin.2.2.1, _, _, fin.2.2.2.1, by rw [hsn, ← hes]; simp [E.modLast_snoc], by rw [hsn]; exact fin.2.2.2.2.1, by rw [hsn]; exact fin.2.2.2.2.2⟩
            exact AllReadyIn.nil
          refine AllReadyIn.cons rfl (fun K hK => ?_) ?_
          · go_simp; refine hK _ _ ?_; clear hK K
            refine wpAnyIn_ready (rs := [4, 6]) (by kernel_rfl) (by simp) ?_
            refine AllReadyIn.cons rfl (fun K hK => ?_) ?_
            · go_simp; refine hK _ _ ?_; clear hK K
              refine wpAnyIn_ready (rs := [6]) (by kernel_rfl) (by simp) ?_
              refine AllReadyIn.cons rfl (fun K hK => ?_) AllReadyIn.nil
              go_simp; refine hK _ _ ?_; clear hK K
              refine wpAnyIn_ready (rs := [7]) (by kernel_rfl) (by simp) ?_
              refine AllReadyIn.cons rfl (fun K hK => ?_) AllReadyIn.nil
              go_simp; refine hK _ _ ?_; clear hK K
              refine wpAnyIn_ready (rs := [8]) (by kernel_rfl) (by simp) ?_
              refine AllReadyIn.cons rfl (fun K hK => ?_) AllReadyIn.nil
              go_simp; refine hK _ _ ?_; clear hK K
              refine wpAnyIn_ready (rs := [9]) (by kernel_rfl) (by simp) ?_
              refine AllReadyIn.cons rfl (fun K hK => ?_) AllReadyIn.nil
              go_simp; refine hK _ _ ?_; clear hK K
              refine wpAnyIn_ready (rs := [10]) (by kernel_rfl) (by simp) ?_
              refine AllReadyIn.cons rfl (fun K hK => ?_) AllReadyIn.nil
              refine stepIn_append_any rfl rfl (.tmp 45) (.tmp 50) 22 rfl (Bx + 6) 33 i0 _ 3 32 Try.underlying22 hi hz0 hz1 hz2 rfl (by decide) (.slice none 0 0) _ _ rfl (hins _) _ _ 1 1 z.cells rfl (reads_glyph_at ((W2.setCell ⟨Bx + 1, 0, none⟩ (.slice (some ⟨g, 0, none⟩) (es.length + 1) cap)).setCell ⟨Bx + 1 + 1, 0, none⟩ (.bool true)) z 33 (by simp)) (by simp [Value.oneCell', R.G.cells]) (by unfold maxLen; omega) (by omega) (by simp; omega) ?_
              intro u W3 hown3 hgrow3 hnew3
              obtain ⟨gg, cap', rfl⟩ := ownsRow_succ hown3
              obtain ⟨⟨f3, c3, j3⟩, fin⟩ := E.ins_fin (B0 := Bx + 6) (TS := 22) (w := w) (a1 := .slice A1 a.length c1) (a2 := .slice (some ⟨bb, ob, none⟩) b.length c2) (z := z) (t := 33) (.int .i64 ((j : Int) + 1)) hBx (by decide) (by decide) hka hkf hg hx6a sa oa ja hgrow3 hown3 hnew3
              have cj3 : _ = some (Value.int .i64 (j : Int)) := j3.cell
              have fj3 := j3.frozen
              try go_simp
              refine hK _ _ ?_; clear hK K
              refine wpAnyIn_ready (rs := [11]) (by kernel_rfl) (by simp) ?_
              refine AllReadyIn.cons rfl (fun K hK => ?_) AllReadyIn.nil
              go_simp; refine hK _ _ ?_; clear hK K
              refine wpAnyIn_ready (rs := [12]) (by kernel_rfl) (by simp) ?_
              refine AllReadyIn.cons rfl (fun K hK => ?_) AllReadyIn.nil
              go_simp; refine hK _ _ ?_; clear hK K
              refine wpAnyIn_ready (rs := [13]) (by kernel_rfl) (by simp) ?_
              refine AllReadyIn.cons rfl (fun K hK => ?_) AllReadyIn.nil
              go_simp; refine hK _ _ ?_; clear hK K
              refine wpAnyIn_done (by kernel_rfl) ?_ _
              gi_wp2
              exact ⟨fin.1, fin.2.1, fin.2.2.1, _, _, fin.2.2.2.1, by rw [hsn, ← hes]; simp [E.modLast_snoc], by rw [hsn]; exact fin.2.2.2.2.1, by rw [hsn]; exact fin.2.2.2.2.2⟩
            refine AllReadyIn.cons rfl (fun K hK => ?_) ?_
            · go_simp; refine hK _ _ ?_; clear hK K
              refine wpAnyIn_ready (rs := [4, 7]) (by kernel_rfl) (by simp) ?_
              refine AllReadyIn.cons rfl (fun K hK => ?_) ?_
              · go_simp; refine hK _ _ ?_; clear hK K
                refine wpAnyIn_ready (rs := [7]) (by kernel_rfl) (by simp) ?_
                refine AllReadyIn.cons rfl (fun K hK => ?_) AllReadyIn.nil
                go_simp; refine hK _ _ ?_; clear hK K
                refine wpAnyIn_ready (rs := [8]) (by kernel_rfl) (by simp) ?_
                refine AllReadyIn.cons rfl (fun K hK => ?_) AllReadyIn.nil
                go_simp; refine hK _ _ ?_; clear hK K
                refine wpAnyIn_ready (rs := [9]) (by kernel_rfl) (by simp) ?_
                refine AllReadyIn.cons rfl (fun K hK => ?_) AllReadyIn.nil
                go_simp; refine hK _ _ ?_; clear hK K
                refine wpAnyIn_ready (rs := [10]) (by kernel_rfl) (by simp) ?_
                refine AllReadyIn.cons rfl (fun K hK => ?_) AllReadyIn.nil
                refine stepIn_append_any rfl rfl (.tmp 45) (.tmp 50) 22 rfl (Bx + 6) 33 i0 _ 3 32 Try.underlying22 hi hz0 hz1 hz2 rfl (by decide) (.slice none 0 0) _ _ rfl (hins _) _ _ 1 1 z.cells rfl (reads_glyph_at ((W2.setCell ⟨Bx + 1, 0, none⟩ (.slice (some ⟨g, 0, none⟩) (es.length + 1) cap)).setCell ⟨Bx + 1 + 1, 0, none⟩ (.bool true)) z 33 (by simp)) (by simp [Value.oneCell', R.G.cells]) (by unfold maxLen; omega) (by omega) (by simp; omega) ?_
                intro u W3 hown3 hgrow3 hnew3
                obtain ⟨gg, cap', rfl⟩ := ownsRow_succ hown3
                obtain ⟨⟨f3, c3, j3⟩, fin⟩ := E.ins_fin (B0 := Bx + 6) (TS := 22) (w := w) (a1 := .slice A1 a.length c1) (a2 := .slice (some ⟨bb, ob, none⟩) b.length c2) (z := z) (t := 33) (.int .i64 ((j : Int) + 1)) hBx (by decide) (by decide) hka hkf hg hx6a sa oa ja hgrow3 hown3 hnew3
                have cj3 : _ = some (Value.int .i64 (j : Int)) := j3.cell
                have fj3 := j3.frozen
                try go_simp
                refine hK _ _ ?_; clear hK K
                refine wpAnyIn_ready (rs := [11]) (by kernel_rfl) (by simp) ?_
                refine AllReadyIn.cons rfl (fun K hK => ?_) AllReadyIn.nil
                go_simp; refine hK _ _ ?_; clear hK K
                refine wpAnyIn_ready (rs := [12]) (by kernel_rfl) (by simp) ?_
                refine AllReadyIn.cons rfl (fun K hK => ?_) AllReadyIn.nil
                go_simp; refine hK _ _ ?_; clear hK K
                refine wpAnyIn_ready (rs := [13]) (by kernel_rfl) (by simp) ?_
                refine AllReadyIn.cons rfl (fun K hK => ?_) AllReadyIn.nil
                go_simp; refine hK _ _ ?_; clear hK K
                refine wpAnyIn_done (by kernel_rfl) ?_ _
                gi_wp2
                exact ⟨fin.1, fin.2.1, fin.2.2.1, _, _, fin.2.2.2.1, by rw [hsn, ← hes]; simp [E.modLast_snoc], by rw [hsn]; exact fin.2.2.2.2.1, by rw [hsn]; exact fin.2.2.2.2.2⟩
              refine AllReadyIn.cons rfl (fun K hK => ?_) ?_
              · go_simp; refine hK _ _ ?_; clear hK K
                refine wpAnyIn_ready (rs := [4, 8]) (by kernel_rfl) (by simp) ?_
                refine AllReadyIn.cons rfl (fun K hK => ?_) ?_
                · go_simp; refine hK _ _ ?_; clear hK K
                  refine wpAnyIn_ready (rs := [8]) (by kernel_rfl) (by simp) ?_
                  refine AllReadyIn.cons rfl (fun K hK => ?_) AllReadyIn.nil
                  go_simp; refine hK _ _ ?_; clear hK K
                  refine wpAnyIn_ready (rs := [9]) (by kernel_rfl) (by simp) ?_
                  refine AllReadyIn.cons rfl (fun K hK => ?_) AllReadyIn.nil
                  go_simp; refine hK _ _ ?_; clear hK K
                  refine wpAnyIn_ready (rs := [10]) (by kernel_rfl) (by simp) ?_
                  refine AllReadyIn.cons rfl (fun K hK => ?_) AllReadyIn.nil
                  refine stepIn_append_any rfl rfl (.tmp 45) (.tmp 50) 22 rfl (Bx + 6) 33 i0 _ 3 32 Try.underlying22 hi hz0 hz1 hz2 rfl (by decide) (.slice none 0 0) _ _ rfl (hins _) _ _ 1 1 z.cells rfl (reads_glyph_at ((W2.setCell ⟨Bx + 1, 0, none⟩ (.slice (some ⟨g, 0, none⟩) (es.length + 1) cap)).setCell ⟨Bx + 1 + 1, 0, none⟩ (.bool true)) z 33 (by simp)) (by simp [Value.oneCell', R.G.cells]) (by unfold maxLen; omega) (by omega) (by simp; omega) ?_
                  intro u W3 hown3 hgrow3 hnew3
                  obtain ⟨gg, cap', rfl⟩ := ownsRow_succ hown3
                  obtain ⟨⟨f3, c3, j3⟩, fin⟩ := E.ins_fin (B0 := Bx + 6) (TS := 22) (w := w) (a1 := .slice A1 a.length c1) (a2 := .slice (some ⟨bb, ob, none⟩) b.length c2) (z := z) (t := 33) (.int .i64 ((j : Int) + 1)) hBx (by decide) (by decide) hka hkf hg hx6a sa oa ja hgrow3 hown3 hnew3
                  have cj3 : _ = some (Value.int .i64 (j : Int)) := j3.cell
                  have fj3 := j3.frozen
                  try go_simp
                  refine hK _ _ ?_; clear hK K
                  refine wpAnyIn_ready (rs := [11]) (by kernel_rfl) (by simp) ?_
                  refine AllReadyIn.cons rfl (fun K hK => ?_) AllReadyIn.nil
                  go_simp; refine hK _ _ ?_; clear hK K
                  refine wpAnyIn_ready (rs := [12]) (by kernel_rfl) (by simp) ?_
                  refine AllReadyIn.cons rfl (fun K hK => ?_) AllReadyIn.nil
                  go_simp; refine hK _ _ ?_; clear hK K
                  refine wpAnyIn_ready (rs := [13]) (by kernel_rfl) (by simp) ?_
                  refine AllReadyIn.cons rfl (fun K hK => ?_) AllReadyIn.nil
                  go_simp; refine hK _ _ ?_; clear hK K
                  refine wpAnyIn_done (by kernel_rfl) ?_ _
                  gi_wp2
                  exact ⟨fin.1, fin.2.1, fin.2.2.1, _, _, fin.2.2.2.1, by rw [hsn, ← hes]; simp [E.modLast_snoc], by rw [hsn]; exact fin.2.2.2.2.1, by rw [hsn]; exact fin.2.2.2.2.2⟩
                refine AllReadyIn.cons rfl (fun K hK => ?_) ?_
                · go_simp; refine hK _ _ ?_; clear hK K
                  refine wpAnyIn_ready (rs := [4, 9]) (by kernel_rfl) (by simp) ?_
                  refine AllReadyIn.cons rfl (fun K hK => ?_) ?_
                  · go_simp; refine hK _ _ ?_; clear hK K
                    refine wpAnyIn_ready (rs := [9]) (by kernel_rfl) (by simp) ?_
                    refine AllReadyIn.cons rfl (fun K hK => ?_) AllReadyIn.nil
                    go_simp; refine hK _ _ ?_; clear hK K
                    refine wpAnyIn_ready (rs := [10]) (by kernel_rfl) (by simp) ?_
                    refine AllReadyIn.cons rfl (fun K hK => ?_) AllReadyIn.nil
                    refine stepIn_append_any rfl rfl (.tmp 45) (.tmp 50) 22 rfl (Bx + 6) 33 i0 _ 3 32 Try.underlying22 hi hz0 hz1 hz2 rfl (by decide) (.slice none 0 0) _ _ rfl (hins _) _ _ 1 1 z.cells rfl (reads_glyph_at ((W2.setCell ⟨Bx + 1, 0, none⟩ (.slice (some ⟨g, 0, none⟩) (es.length + 1) cap)).setCell ⟨Bx + 1 + 1, 0, none⟩ (.bool true)) z 33 (by simp)) (by simp [Value.oneCell', R.G.cells]) (by unfold maxLen; omega) (by omega) (by simp; omega) ?_
                    intro u W3 hown3 hgrow3 hnew3
                    obtain ⟨gg, cap', rfl⟩ := ownsRow_succ hown3
                    obtain ⟨⟨f3, c3, j3⟩, fin⟩ := E.ins_fin (B0 := Bx + 6) (TS := 22) (w := w) (a1 := .slice A1 a.length c1) (a2 := .slice (some ⟨bb, ob, none⟩) b.length c2) (z := z) (t := 33) (.int .i64 ((j : Int) + 1)) hBx (by decide) (by decide) hka hkf hg hx6a sa oa ja hgrow3 hown3 hnew3
                    have cj3 : _ = some (Value.int .i64 (j : Int)) := j3.cell
                    have fj3 := j3.frozen
                    try go_simp
                    refine hK _ _ ?_; clear hK K
                    refine wpAnyIn_ready (rs := [11]) (by kernel_rfl) (by simp) ?_
                    refine AllReadyIn.cons rfl (fun K hK => ?_) AllReadyIn.nil
                    go_simp; refine hK _ _ ?_; clear hK K
                    refine wpAnyIn_ready (rs := [12]) (by kernel_rfl) (by simp) ?_
                    refine AllReadyIn.cons rfl (fun K hK => ?_) AllReadyIn.nil
                    go_simp; refine hK _ _ ?_; clear hK K
                    refine wpAnyIn_ready (rs := [13]) (by kernel_rfl) (by simp) ?_
                    refine AllReadyIn.cons rfl (fun K hK => ?_) AllReadyIn.nil
                    go_simp; refine hK _ _ ?_; clear hK K
                    refine wpAnyIn_done (by kernel_rfl) ?_ _
                    gi_wp2
                    exact ⟨fin.1, fin.2.1, fin.2.2.1, _, _, fin.2.2.2.1, by rw [hsn, ← hes]; simp [E.modLast_snoc], by rw [hsn]; exact fin.2.2.2.2.1, by rw [hsn]; exact fin.2.2.2.2.2⟩
                  refine AllReadyIn.cons rfl (fun K hK => ?_) ?_
                  · go_simp; refine hK _ _ ?_; clear hK K
                    refine wpAnyIn_ready (rs := [4]) (by kernel_rfl) (by simp) ?_
                    refine AllReadyIn.cons rfl (fun K hK => ?_) AllReadyIn.nil
                    go_simp; refine hK _ _ ?_; clear hK K
                    refine wpAnyIn_ready (rs := [10]) (by kernel_rfl) (by simp) ?_
                    refine AllReadyIn.cons rfl (fun K hK => ?_) AllReadyIn.nil
                    refine stepIn_append_any rfl rfl (.tmp 45) (.tmp 50) 22 rfl (Bx + 6) 33 i0 _ 3 32 Try.underlying22 hi hz0 hz1 hz2 rfl (by decide) (.slice none 0 0) _ _ rfl (hins _) _ _ 1 1 z.cells rfl (reads_glyph_at ((W2.setCell ⟨Bx + 1, 0, none⟩ (.slice (some ⟨g, 0, none⟩) (es.length + 1) cap)).setCell ⟨Bx + 1 + 1, 0, none⟩ (.bool true)) z 33 (by simp)) (by simp [Value.oneCell', R.G.cells]) (by unfold maxLen; omega) (by omega) (by simp; omega) ?_
                    intro u W3 hown3 hgrow3 hnew3
                    obtain ⟨gg, cap', rfl⟩ := ownsRow_succ hown3
                    obtain ⟨⟨f3, c3, j3⟩, fin⟩ := E.ins_fin (B0 := Bx + 6) (TS := 22) (w := w) (a1 := .slice A1 a.length c1) (a2 := .slice (some ⟨bb, ob, none⟩) b.length c2) (z := z) (t := 33) (.int .i64 ((j : Int) + 1)) hBx (by decide) (by decide) hka hkf hg hx6a sa oa ja hgrow3 hown3 hnew3
                    have cj3 : _ = some (Value.int .i64 (j : Int)) := j3.cell
                    have fj3 := j3.frozen
                    try go_simp
                    refine hK _ _ ?_; clear hK K
                    refine wpAnyIn_ready (rs := [11]) (by kernel_rfl) (by simp) ?_
                    refine AllReadyIn.cons rfl (fun K hK => ?_) AllReadyIn.nil
                    go_simp; refine hK _ _ ?_; clear hK K
                    refine wpAnyIn_ready (rs := [12]) (by kernel_rfl) (by simp) ?_
                    refine AllReadyIn.cons rfl (fun K hK => ?_) AllReadyIn.nil
                    go_simp; refine hK _ _ ?_; clear hK K
                    refine wpAnyIn_ready (rs := [13]) (by kernel_rfl) (by simp) ?_
                    refine AllReadyIn.cons rfl (fun K hK => ?_) AllReadyIn.nil
                    go_simp; refine hK _ _ ?_; clear hK K
                    refine wpAnyIn_done (by kernel_rfl) ?_ _
                    gi_wp2
                    exact ⟨fin.1, fin.2.1, fin.2.2.1, _, _, fin.2.2.2.1, by rw [hsn, ← hes]; simp [E.modLast_snoc], by rw [hsn]; exact fin.2.2.2.2.1, by rw [hsn]; exact fin.2.2.2.2.2⟩
                  exact AllReadyIn.nil
                exact AllReadyIn.nil
              exact AllReadyIn.nil
            exact AllReadyIn.nil
          refine AllReadyIn.cons rfl (fun K hK => ?_) ?_
          · go_simp; refine hK _ _ ?_; clear hK K
            refine wpAnyIn_ready (rs := [4, 5]) (by kernel_rfl) (by simp) ?_
            refine AllReadyIn.cons rfl (fun K hK => ?_) ?_
            · go_simp; refine hK _ _ ?_; clear hK K
              refine wpAnyIn_ready (rs := [5]) (by kernel_rfl) (by simp) ?_
              refine AllReadyIn.cons rfl (fun K hK => ?_) AllReadyIn.nil
              go_simp; refine hK _ _ ?_; clear hK K
              refine wpAnyIn_ready (rs := [7]) (by kernel_rfl) (by simp) ?_
              refine AllReadyIn.cons rfl (fun K hK => ?_) AllReadyIn.nil
              go_simp; refine hK _ _ ?_; clear hK K
              refine wpAnyIn_ready (rs := [8]) (by kernel_rfl) (by simp) ?_
              refine AllReadyIn.cons rfl (fun K hK => ?_) AllReadyIn.nil
              go_simp; refine hK _ _ ?_; clear hK K
              refine wpAnyIn_ready (rs := [9]) (by kernel_rfl) (by simp) ?_
              refine AllReadyIn.cons rfl (fun K hK => ?_) AllReadyIn.nil
              go_simp; refine hK _ _ ?_; clear hK K
              refine wpAnyIn_ready (rs := [10]) (by kernel_rfl) (by simp) ?_
              refine AllReadyIn.cons rfl (fun K hK => ?_) AllReadyIn.nil
              refine stepIn_append_any rfl rfl (.tmp 45) (.tmp 50) 22 rfl (Bx + 6) 33 i0 _ 3 32 Try.underlying22 hi hz0 hz1 hz2 rfl (by decide) (.slice none 0 0) _ _ rfl (hins _) _ _ 1 1 z.cells rfl (reads_glyph_at ((W2.setCell ⟨Bx + 1, 0, none⟩ (.slice (some ⟨g, 0, none⟩) (es.length + 1) cap)).setCell ⟨Bx + 1 + 1, 0, none⟩ (.bool true)) z 33 (by simp)) (by simp [Value.oneCell', R.G.cells]) (by unfold maxLen; omega) (by omega) (by simp; omega) ?_
              intro u W3 hown3 hgrow3 hnew3
              obtain ⟨gg, cap', rfl⟩ := ownsRow_succ hown3
              obtain ⟨⟨f3, c3, j3⟩, fin⟩ := E.ins_fin (B0 := Bx + 6) (TS := 22) (w := w) (a1 := .slice A1 a.length c1) (a2 := .slice (some ⟨bb, ob, none⟩) b.length c2) (z := z) (t := 33) (.int .i64 ((j : Int) + 1)) hBx (by decide) (by decide) hka hkf hg hx6a sa oa ja hgrow3 hown3 hnew3
              have cj3 : _ = some (Value.int .i64 (j : Int)) := j3.cell
              have fj3 := j3.frozen
              try go_simp
              refine hK _ _ ?_; clear hK K
              refine wpAnyIn_ready (rs := [11]) (by kernel_rfl) (by simp) ?_
              refine AllReadyIn.cons rfl (fun K hK => ?_) AllReadyIn.nil
              go_simp; refine hK _ _ ?_; clear hK K
              refine wpAnyIn_ready (rs := [12]) (by kernel_rfl) (by simp) ?_
              refine AllReadyIn.cons rfl (fun K hK => ?_) AllReadyIn.nil
              go_simp; refine hK _ _ ?_; clear hK K
              refine wpAnyIn_ready (rs := [13]) (by kernel_rfl) (by simp) ?_
              refine AllReadyIn.cons rfl (fun K hK => ?_) AllReadyIn.nil
              go_simp; refine hK _ _ ?_; clear hK K
              refine wpAnyIn_done (by kernel_rfl) ?_ _
              gi_wp2
              exact ⟨fin.1, fin.2.1, fin.2.2.1, _, _, fin.2.2.2.1, by rw [hsn, ← hes]; simp [E.modLast_snoc], by rw [hsn]; exact fin.2.2.2.2.1, by rw [hsn]; exact fin.2.2.2.2.2⟩
            refine AllReadyIn.cons rfl (fun K hK => ?_) ?_
            · go_simp; refine hK _ _ ?_; clear hK K
              refine wpAnyIn_ready (rs := [4, 7]) (by kernel_rfl) (by simp) ?_
              refine AllReadyIn.cons rfl (fun K hK => ?_) ?_
              · go_simp; refine hK _ _ ?_; clear hK K
                refine wpAnyIn_ready (rs := [7]) (by kernel_rfl) (by simp) ?_
                refine AllReadyIn.cons rfl (fun K hK => ?_) AllReadyIn.nil
                go_simp; refine hK _ _ ?_; clear hK K
                refine wpAnyIn_ready (rs := [8]) (by kernel_rfl) (by simp) ?_
                refine AllReadyIn.cons rfl (fun K hK => ?_) AllReadyIn.nil
                go_simp; refine hK _ _ ?_; clear hK K
                refine wpAnyIn_ready (rs := [9]) (by kernel_rfl) (by simp) ?_
                refine AllReadyIn.cons rfl (fun K hK => ?_) AllReadyIn.nil
                go_simp; refine hK _ _ ?_; clear hK K
                refine wpAnyIn_ready (rs := [10]) (by kernel_rfl) (by simp) ?_
                refine AllReadyIn.cons rfl (fun K hK => ?_) AllReadyIn.nil
                refine stepIn_append_any rfl rfl (.tmp 45) (.tmp 50) 22 rfl (Bx + 6) 33 i0 _ 3 32 Try.underlying22 hi hz0 hz1 hz2 rfl (by decide) (.slice none 0 0) _ _ rfl (hins _) _ _ 1 1 z.cells rfl (reads_glyph_at ((W2.setCell ⟨Bx + 1, 0, none⟩ (.slice (some ⟨g, 0, none⟩) (es.length + 1) cap)).setCell ⟨Bx + 1 + 1, 0, none⟩ (.bool true)) z 33 (by simp)) (by simp [Value.oneCell', R.G.cells]) (by unfold maxLen; omega) (by omega) (by simp; omega) ?_
                intro u W3 hown3 hgrow3 hnew3
                obtain ⟨gg, cap', rfl⟩ := ownsRow_succ hown3
                obtain ⟨⟨f3, c3, j3⟩, fin⟩ := E.ins_fin (B0 := Bx + 6) (TS := 22) (w := w) (a1 := .slice A1 a.length c1) (a2 := .slice (some ⟨bb, ob, none⟩) b.length c2) (z := z) (t := 33) (.int .i64 ((j : Int) + 1)) hBx (by decide) (by decide) hka hkf hg hx6a sa oa ja hgrow3 hown3 hnew3
                have cj3 : _ = some (Value.int .i64 (j : Int)) := j3.cell
                have fj3 := j3.frozen
                try go_simp
                refine hK _ _ ?_; clear hK K
                refine wpAnyIn_ready (rs := [11]) (by kernel_rfl) (by simp) ?_
                refine AllReadyIn.cons rfl (fun K hK => ?_) AllReadyIn.nil
                go_simp; refine hK _ _ ?_; clear hK K
                refine wpAnyIn_ready (rs := [12]) (by kernel_rfl) (by simp) ?_
                refine AllReadyIn.cons rfl (fun K hK => ?_) AllReadyIn.nil
                go_simp; refine hK _ _ ?_; clear hK K
                refine wpAnyIn_ready (rs := [13]) (by kernel_rfl) (by simp) ?_
                refine AllReadyIn.cons rfl (fun K hK => ?_) AllReadyIn.nil
                go_simp; refine hK _ _ ?_; clear hK K
                refine wpAnyIn_done (by kernel_rfl) ?_ _
                gi_wp2
                exact ⟨fin.1, fin.2.1, fin.2.2.1, _, _, fin.2.2.2.1, by rw [hsn, ← hes]; simp [E.modLast_snoc], by rw [hsn]; exact fin.2.2.2.2.1, by rw [hsn]; exact fin.2.2.2.2.2⟩
              refine AllReadyIn.cons rfl (fun K hK => ?_) ?_
              · go_simp; refine hK _ _ ?_; clear hK K
                refine wpAnyIn_ready (rs := [4, 8]) (by kernel_rfl) (by simp) ?_
                refine AllReadyIn.cons rfl (fun K hK => ?_) ?_
                · go_simp; refine hK _ _ ?_; clear hK K
                  refine wpAnyIn_ready (rs := [8]) (by kernel_rfl) (by simp) ?_
                  refine AllReadyIn.cons rfl (fun K hK => ?_) AllReadyIn.nil
                  go_simp; refine hK _ _ ?_; clear hK K
                  refine wpAnyIn_ready (rs := [9]) (by kernel_rfl) (by simp) ?_
                  refine AllReadyIn.cons rfl (fun K hK => ?_) AllReadyIn.nil
                  go_simp; refine hK _ _ ?_; clear hK K
                  refine wpAnyIn_ready (rs := [10]) (by kernel_rfl) (by simp) ?_
                  refine AllReadyIn.cons rfl (fun K hK => ?_) AllReadyIn.nil
                  refine stepIn_append_any rfl rfl (.tmp 45) (.tmp 50) 22 rfl (Bx + 6) 33 i0 _ 3 32 Try.underlying22 hi hz0 hz1 hz2 rfl (by decide) (.slice none 0 0) _ _ rfl (hins _) _ _ 1 1 z.cells rfl (reads_glyph_at ((W2.setCell ⟨Bx + 1, 0, none⟩ (.slice (some ⟨g, 0, none⟩) (es.length + 1) cap)).setCell ⟨Bx + 1 + 1, 0, none⟩ (.bool true)) z 33 (by simp)) (by simp [Value.oneCell', R.G.cells]) (by unfold maxLen; omega) (by omega) (by simp; omega) ?_
                  intro u W3 hown3 hgrow3 hnew3
                  obtain ⟨gg, cap', rfl⟩ := ownsRow_succ hown3
                  obtain ⟨⟨f3, c3, j3⟩, fin⟩ := E.ins_fin (B0 := Bx + 6) (TS := 22) (w := w) (a1 := .slice A1 a.length c1) (a2 := .slice (some ⟨bb, ob, none⟩) b.length c2) (z := z) (t := 33) (.int .i64 ((j : Int) + 1)) hBx (by decide) (by decide) hka hkf hg hx6a sa oa ja hgrow3 hown3 hnew3
                  have cj3 : _ = some (Value.int .i64 (j : Int)) := j3.cell
                  have fj3 := j3.frozen
                  try go_simp
                  refine hK _ _ ?_; clear hK K
                  refine wpAnyIn_ready (rs := [11]) (by kernel_rfl) (by simp) ?_
                  refine AllReadyIn.cons rfl (fun K hK => ?_) AllReadyIn.nil
                  go_simp; refine hK _ _ ?_; clear hK K
                  refine wpAnyIn_ready (rs := [12]) (by kernel_rfl) (by simp) ?_
                  refine AllReadyIn.cons rfl (fun K hK => ?_) AllReadyIn.nil
                  go_simp; refine hK _ _ ?_; clear hK K
                  refine wpAnyIn_ready (rs := [13]) (by kernel_rfl) (by simp) ?_
                  refine AllReadyIn.cons rfl (fun K hK => ?_) AllReadyIn.nil
                  go_simp; refine hK _ _ ?_; clear hK K
                  refine wpAnyIn_done (by kernel_rfl) ?_ _
                  gi_wp2
                  exact ⟨fin.1, fin.2.1, fin.2.2.1, _, _, fin.2.2.2.1, by rw [hsn, ← hes]; simp [E.modLast_snoc], by rw [hsn]; exact fin.2.2.2.2.1, by rw [hsn]; exact fin.2.2.2.2.2⟩
                refine AllReadyIn.cons rfl (fun K hK => ?_) ?_
                · go_simp; refine hK _ _ ?_; clear hK K
                  refine wpAnyIn_ready (rs := [4, 9]) (by kernel_rfl) (by simp) ?_
                  refine AllReadyIn.cons rfl (fun K hK => ?_) ?_
                  · go_simp; refine hK _ _ ?_; clear hK K
                    refine wpAnyIn_ready (rs := [9]) (by kernel_rfl) (by simp) ?_
                    refine AllReadyIn.cons rfl (fun K hK => ?_) AllReadyIn.nil
                    go_simp; refine hK _ _ ?_; clear hK K
                    refine wpAnyIn_ready (rs := [10]) (by kernel_rfl) (by simp) ?_
                    refine AllReadyIn.cons rfl (fun K hK => ?_) AllReadyIn.nil
                    refine stepIn_append_any rfl rfl (.tmp 45) (.tmp 50) 22 rfl (Bx + 6) 33 i0 _ 3 32 Try.underlying22 hi hz0 hz1 hz2 rfl (by decide) (.slice none 0 0) _ _ rfl (hins _) _ _ 1 1 z.cells rfl (reads_glyph_at ((W2.setCell ⟨Bx + 1, 0, none⟩ (.slice (some ⟨g, 0, none⟩) (es.length + 1) cap)).setCell ⟨Bx + 1 + 1, 0, none⟩ (.bool true)) z 33 (by simp)) (by simp [Value.oneCell', R.G.cells]) (by unfold maxLen; omega) (by omega) (by simp; omega) ?_
                    intro u W3 hown3 hgrow3 hnew3
                    obtain ⟨gg, cap', rfl⟩ := ownsRow_succ hown3
                    obtain ⟨⟨f3, c3, j3⟩, fin⟩ := E.ins_fin (B0 := Bx + 6) (TS := 22) (w := w) (a1 := .slice A1 a.length c1) (a2 := .slice (some ⟨bb, ob, none⟩) b.length c2) (z := z) (t := 33) (.int .i64 ((j : Int) + 1)) hBx (by decide) (by decide) hka hkf hg hx6a sa oa ja hgrow3 hown3 hnew3
                    have cj3 : _ = some (Value.int .i64 (j : Int)) := j3.cell
                    have fj3 := j3.frozen
                    try go_simp
                    refine hK _ _ ?_; clear hK K
                    refine wpAnyIn_ready (rs := [11]) (by kernel_rfl) (by simp) ?_
                    refine AllReadyIn.cons rfl (fun K hK => ?_) AllReadyIn.nil
                    go_simp; refine hK _ _ ?_; clear hK K
                    refine wpAnyIn_ready (rs := [12]) (by kernel_rfl) (by simp) ?_
                    refine AllReadyIn.cons rfl (fun K hK => ?_) AllReadyIn.nil
                    go_simp; refine hK _ _ ?_; clear hK K
                    refine wpAnyIn_ready (rs := [13]) (by kernel_rfl) (by simp) ?_
                    refine AllReadyIn.cons rfl (fun K hK => ?_) AllReadyIn.nil
                    go_simp; refine hK _ _ ?_; clear hK K
                    refine wpAnyIn_done (by kernel_rfl) ?_ _
                    gi_wp2
                    exact ⟨fin.1, fin.2.1, fin.2.2.1, _, _, fin.2.2.2.1, by rw [hsn, ← hes]; simp [E.modLast_snoc], by rw [hsn]; exact fin.2.2.2.2.1, by rw [hsn]; exact fin.2.2.2.2.2⟩
                  refine AllReadyIn.cons rfl (fun K hK => ?_) ?_
                  · go_simp; refine hK _ _ ?_; clear hK K
                    refine wpAnyIn_ready (rs := [4]) (by kernel_rfl) (by simp) ?_
                    refine AllReadyIn.cons rfl (fun K hK => ?_) AllReadyIn.nil
                    go_simp; refine hK _ _ ?_; clear hK K
                    refine wpAnyIn_ready (rs := [10]) (by kernel_rfl) (by simp) ?_
                    refine AllReadyIn.cons rfl (fun K hK => ?_) AllReadyIn.nil
                    refine stepIn_append_any rfl rfl (.tmp 45) (.tmp 50) 22 rfl (Bx + 6) 33 i0 _ 3 32 Try.underlying22 hi hz0 hz1 hz2 rfl (by decide) (.slice none 0 0) _ _ rfl (hins _) _ _ 1 1 z.cells rfl (reads_glyph_at ((W2.setCell ⟨Bx + 1, 0, none⟩ (.slice (some ⟨g, 0, none⟩) (es.length + 1) cap)).setCell ⟨Bx + 1 + 1, 0, none⟩ (.bool true)) z 33 (by simp)) (by simp [Value.oneCell', R.G.cells]) (by unfold maxLen; omega) (by omega) (by simp; omega) ?_
                    intro u W3 hown3 hgrow3 hnew3
                    obtain ⟨gg, cap', rfl⟩ := ownsRow_succ hown3
                    obtain ⟨⟨f3, c3, j3⟩, fin⟩ := E.ins_fin (B0 := Bx + 6) (TS := 22) (w := w) (a1 := .slice A1 a.length c1) (a2 := .slice (some ⟨bb, ob, none⟩) b.length c2) (z := z) (t := 33) (.int .i64 ((j : Int) + 1)) hBx (by decide) (by decide) hka hkf hg hx6a sa oa ja hgrow3 hown3 hnew3
                    have cj3 : _ = some (Value.int .i64 (j : Int)) := j3.cell
                    have fj3 := j3.frozen
                    try go_simp
                    refine hK _ _ ?_; clear hK K
                    refine wpAnyIn_ready (rs := [11]) (by kernel_rfl) (by simp) ?_
                    refine AllReadyIn.cons rfl (fun K hK => ?_) AllReadyIn.nil
                    go_simp; refine hK _ _ ?_; clear hK K
                    refine wpAnyIn_ready (rs := [12]) (by kernel_rfl) (by simp) ?_
                    refine AllReadyIn.cons rfl (fun K hK => ?_) AllReadyIn.nil
                    go_simp; refine hK _ _ ?_; clear hK K
                    refine wpAnyIn_ready (rs := [13]) (by kernel_rfl) (by simp) ?_
                    refine AllReadyIn.cons rfl (fun K hK => ?_) AllReadyIn.nil
                    go_simp; refine hK _ _ ?_; clear hK K
                    refine wpAnyIn_done (by kernel_rfl) ?_ _
                    gi_wp2
                    exact ⟨fin.1, fin.2.1, fin.2.2.1, _, _, fin.2.2.2.1, by rw [hsn, ← hes]; simp [E.modLast_snoc], by rw [hsn]; exact fin.2.2.2.2.1, by rw [hsn]; exact fin.2.2.2.2.2⟩
                  exact AllReadyIn.nil
                exact AllReadyIn.nil
              exact AllReadyIn.nil
            exact AllReadyIn.nil
          exact AllReadyIn.nil
    -- END
  case done =>
    rintro D W hD ⟨hg, v, es, hs, hes, -, -⟩ hK
    have hc := hs.box.cell
    gi_wp2
    refine ⟨by simp, .inl ⟨_, _, rfl, run_takeDeferred hK, ?_⟩⟩
    refine ⟨_, results_tmp rfl _ _ _, v, es, rfl, ?_⟩
    rw [hBx]
    rw [E.sst_script] at hes
    have hk : ∀ o, E.SJ 46 49 33 3 R.G.cells Bx (W.putObj D o) v es := fun o => hs.kept (grownBy_putObj' W D o) (fun r e => by
      cases e
      refine ⟨by omega, fun hO => ?_⟩
      obtain ⟨cur, t, q1, _⟩ := hs.type hO
      rw [q1] at hK; cases hK)
    refine ⟨⟨own_less (hk _).eds.own (by omega), fun x hx => own_less ((hk _).eds.ins x hx) (by omega), hs.eds.sep⟩, hes, hg.2.2.2.1.trans (belowK_b (w := w) (by omega) W D _ _ (by omega) hK rfl rfl)⟩
  case stop =>
    rintro D c pre W _ _ h _
    exact h.elim
end Go.Proofs.Yteakiielcmgkeaa
