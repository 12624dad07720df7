/-
  The walks of layer 16: Common (integers). By an AI agent.
-/
import Derived.Test.YtpigimmgadcogaaSm
import Derived.Test.YtpigimmgadcogaaRound
namespace Go.Proofs.Ytpigimmgadcogaa
open Go.RowKit Go.Shelf Go.Deep

attribute [local go_sem] Oper.semAt_some

theorem walker_in (n : Nat) (A1 A2 : Option Addr) (n1 c1 n2 c2 : Nat) (w : World) :
    CallsIn Fence.wide n Try.prog 30 #[.slice A1 n1 c1, .slice A2 n2 c2] w fun e w' => e = .returned (.func (.func 33) #[] #[.pointer (some ⟨w.heap.size, 0, none⟩), .pointer (some ⟨w.heap.size + 1, 0, none⟩)]) ∧ w' = (w.alloc (.cells #[.slice A1 n1 c1] 22)).alloc (.cells #[.slice A2 n2 c2] 22) := by
  refine callsIn_of_wp Try.func30 rfl trivial ?_ rfl
  simp only [Try.ntmps30, List.size_toArray, List.length_cons, List.length_nil, Nat.reduceAdd, Nat.reduceSub, Array.replicate_succ, Array.replicate_zero, List.push_toArray, List.append_toArray, List.nil_append, List.cons_append]
  gi_wp2
  go_ret
  exact ⟨rfl, rfl⟩

namespace E
/-- What the iterator asks of Common's variables (from block Bx on: a, out, a, b). -/
def CG (w : World) (Bx : Nat) (a1 a2 : Value) (W : World) : Prop :=
  Boxed W Bx 22 a1 ∧ Boxed W (Bx + 1 + 1) 22 a1 ∧ Boxed W (Bx + 1 + 1 + 1) 22 a2 ∧ Below Bx w W ∧ ∃ v, Boxed W (Bx + 1) 22 v ∧ ∀ g, v.ownBlock = some g → g < W.heap.size
/-- The own row lies outside. -/
def CF (Bx T H : Nat) (W : World) : Prop := Bx + 4 ≤ T ∧ ∃ v, Boxed W (Bx + 1) 22 v ∧ ∀ g, v.ownBlock = some g → g < T ∨ H ≤ g

variable {w : World} {Bx : Nat} {a1 a2 : Value}
theorem CG.below {W W' : World} (hw : w.heap.size = Bx) (h : CG w Bx a1 a2 W) (hb : Below W.heap.size W W') : CG w Bx a1 a2 W' := by
  obtain ⟨h1, h2, h3, h4, v, h5, h6⟩ := h
  exact ⟨boxed_below h1 hb, boxed_below h2 hb, boxed_below h3 hb, h4.trans (hb.mono (hw ▸ h4.size)), v, boxed_below h5 hb, fun g hg => Nat.lt_of_lt_of_le (h6 g hg) hb.size⟩
theorem CG.free {W W' : World} (h : CG w Bx a1 a2 W) (hb : Below W.heap.size W W') : CF Bx W.heap.size W'.heap.size W' := by
  obtain ⟨h1, h2, h3, h4, v, h5, h6⟩ := h
  exact ⟨by have := h3.lt; omega, v, boxed_below h5 hb, fun g hg => .inl (h6 g hg)⟩
theorem CF.drewN {T H : Nat} {W : World} (k : Nat) (h : CF Bx T H W) : CF Bx T H (W.drewN k) := h

/-- Only new blocks, and draws. -/
theorem kp_below {W W' : World} (hw : w.heap.size = Bx) (hb : Below W.heap.size W W') : Kp (CG w Bx a1 a2) (CF Bx) W W' := by
  refine ⟨fun g => CG.below hw g hb, fun T H hf hH => ⟨?_, Nat.le_trans hH hb.size, fun k _ h2 o ho _ => (hb.block k (by omega)).trans ho⟩⟩
  obtain ⟨h0, v, h1, h2⟩ := hf
  exact ⟨h0, v, boxed_below h1 hb, h2⟩

/-- The own row grows and its variable is stored. -/
theorem kp_grow {W W1 : World} {v v' : Value} (hw : w.heap.size = Bx) (hv : Boxed W (Bx + 1) 22 v) (hvl : ∀ g, v.ownBlock = some g → Bx + 4 ≤ g) (hg : W.grownBy W1 v.ownBlock) (hnew : v'.ownBlock = v.ownBlock ∨ ∃ k, W.heap.size ≤ k ∧ k < W1.heap.size ∧ v'.ownBlock = some k) :
    Kp (CG w Bx a1 a2) (CF Bx) W (W1.setCell ⟨Bx + 1, 0, none⟩ v') := by
  have hb1 : Boxed W1 (Bx + 1) 22 v := hv.kept hg (fun e => by have := hvl _ e.symm; omega)
  have hset : Boxed (W1.setCell ⟨Bx + 1, 0, none⟩ v') (Bx + 1) 22 v' := hb1.set v'
  refine ⟨?_, fun T H hf hH => ⟨?_, ?_, ?_⟩⟩
  · rintro ⟨h1, h2, h3, h4, u, h5, h6⟩
    have := boxed_fun h5 hv
    subst this
    have k1 : ∀ (B : Nat) (t : TypeId) (x : Value), B < Bx + 4 → B ≠ Bx + 1 → Boxed W B t x → Boxed (W1.setCell ⟨Bx + 1, 0, none⟩ v') B t x := fun B t x hB hne h => (h.kept hg (fun e => by have := hvl _ e.symm; omega)).other hne _
    refine ⟨k1 _ _ _ (by omega) (by omega) h1, k1 _ _ _ (by omega) (by omega) h2, k1 _ _ _ (by omega) (by omega) h3, (h4.grown hg (hw ▸ h4.size) (fun k e => by have := hvl k e; omega)).setCell (by show Bx ≤ Bx + 1; omega) _, v', hset, fun g hgg => ?_⟩
    rcases hnew with e | ⟨k, k1, k2, e⟩
    · rw [e] at hgg; have := h6 g hgg; have := hg.size; simp; omega
    · rw [e] at hgg; injection hgg with hgg; subst hgg; simpa using k2
  · obtain ⟨h0, u, h1, h2⟩ := hf
    have := boxed_fun h1 hv
    subst this
    refine ⟨h0, v', hset, fun g hgg => ?_⟩
    rcases hnew with e | ⟨k, k1, k2, e⟩
    · rw [e] at hgg; exact h2 g hgg
    · rw [e] at hgg; injection hgg with hgg; subst hgg; exact .inr (Nat.le_trans hH k1)
  · have := hg.size; simp; omega
  · obtain ⟨h0, u, h1, h2⟩ := hf
    have := boxed_fun h1 hv
    subst this
    intro k k1 k2 o ho _
    have e1 : W1.heap[k]? = some o := (hg.block k (by omega) (fun e => by rcases h2 k e.symm with hh | hh <;> omega)).trans ho
    rw [← e1]
    exact Below.heap_setCell _ _ _ k (fun e => by simp at e; omega)

theorem CG.kept {W W' : World} {row : Option Nat} (hw : w.heap.size = Bx) (h : CG w Bx a1 a2 W) (hg : W.grownBy W' row) (hr : ∀ r, row = some r → Bx + 4 ≤ r) : CG w Bx a1 a2 W' := by
  obtain ⟨h1, h2, h3, h4, v, h5, h6⟩ := h
  exact ⟨h1.kept hg (fun e => by have := hr _ e.symm; omega), h2.kept hg (fun e => by have := hr _ e.symm; omega), h3.kept hg (fun e => by have := hr _ e.symm; omega),
    h4.grown hg (hw ▸ h4.size) (fun k e => by have := hr k e; omega), v, h5.kept hg (fun e => by have := hr _ e.symm; omega), fun g hg' => Nat.lt_of_lt_of_le (h6 g hg') hg.size⟩
theorem kp_put {W : World} {l : Nat} {o : Obj} (o' : Obj) (hw : w.heap.size = Bx) (hl : Bx + 4 ≤ l) (ho : W.heap[l]? = some o) (hc : o.isCells = false) : Kp (CG w Bx a1 a2) (CF Bx) W (W.putObj l o') := by
  refine ⟨fun g => CG.kept hw g (grownBy_putObj' W l o') (fun r e => by cases e; exact hl), fun T H hf hH => ⟨?_, Nat.le_trans hH (grownBy_putObj' W l o').size, fun k _ h2 o2 ho2 hc2 => ?_⟩⟩
  · obtain ⟨h0, v, h1, h2⟩ := hf
    exact ⟨h0, v, boxed_put h1 ho hc o', h2⟩
  · exact ((grownBy_putObj' W l o').block k (by omega) (fun e => by cases e; rw [ho] at ho2; cases ho2; rw [hc] at hc2; cases hc2)).trans ho2
end E

set_option maxRecDepth 100000 in
set_option maxHeartbeats 8000000 in
theorem common_in (A1 A2 : Option Addr) (c1 c2 B : Nat) (a b : List Int) (w : World) (ha : Reads w B 1 A1 a.length (E.ns a)) (hb : Reads w B 1 A2 b.length (E.ns b)) (hB : B ≤ w.heap.size) (hna : a.length ≤ 1000) (hnb : b.length ≤ 1000) :
    Calls Try.prog 20 #[.slice A1 a.length c1, .slice A2 b.length c2] w fun e W' => ∃ v, e = .returned v ∧ W'.ownsRow w.heap.size 3 1 v (E.common a b).length (E.ns (E.common a b)) ∧ Below w.heap.size w W' := by
  refine (callsIn_wide (n := 10)).1 ?_
  obtain ⟨i0, hi, hz0, hz1, hz2⟩ := info_parts Try.info3
  refine callsIn_of_wp_marks Try.func20 rfl trivial ?_ rfl
  simp only [Try.ntmps20, List.size_toArray, List.length_cons, List.length_nil, Nat.reduceAdd, Nat.reduceSub, Array.replicate_succ, Array.replicate_zero, List.push_toArray, List.append_toArray, List.nil_append, List.cons_append]
  gi_wp2_with (refine ⟨trivial, ?_⟩; gi_at_call 30; refine (walker_in _ _ _ _ _ _ _ _).mono ?_; rintro e w' ⟨rfl, rfl⟩)
  obtain ⟨Bx, hBx⟩ : ∃ Bx, w.heap.size = Bx := ⟨_, rfl⟩
  have hg0 : E.CG w Bx (.slice A1 a.length c1) (.slice A2 b.length c2) ((((w.alloc (.cells #[.slice A1 a.length c1] 22)).alloc (.cells #[.slice none 0 0] 22)).alloc (.cells #[.slice A1 a.length c1] 22)).alloc (.cells #[.slice A2 b.length c2] 22)) := by
    have b1 := (((Boxed.new w 22 (.slice A1 a.length c1)).alloc (.cells #[.slice none 0 0] 22)).alloc (.cells #[.slice A1 a.length c1] 22)).alloc (.cells #[.slice A2 b.length c2] 22)
    have b2 := ((Boxed.new (w.alloc (.cells #[.slice A1 a.length c1] 22)) 22 (.slice none 0 0)).alloc (.cells #[.slice A1 a.length c1] 22)).alloc (.cells #[.slice A2 b.length c2] 22)
    have b3 := (Boxed.new ((w.alloc (.cells #[.slice A1 a.length c1] 22)).alloc (.cells #[.slice none 0 0] 22)) 22 (.slice A1 a.length c1)).alloc (.cells #[.slice A2 b.length c2] 22)
    have b4 := Boxed.new (((w.alloc (.cells #[.slice A1 a.length c1] 22)).alloc (.cells #[.slice none 0 0] 22)).alloc (.cells #[.slice A1 a.length c1] 22)) 22 (.slice A2 b.length c2)
    simp only [World.size_alloc, hBx] at b1 b2 b3 b4
    exact ⟨b1, b3, b4, by rw [← hBx]; exact ((((Below.refl _ w).alloc (Nat.le_refl _) _).alloc (by simp) _).alloc (by simp; omega) _).alloc (by simp; omega) _, _, b2, fun g hg => by cases hg⟩
  have hb0 : Boxed ((((w.alloc (.cells #[.slice A1 a.length c1] 22)).alloc (.cells #[.slice none 0 0] 22)).alloc (.cells #[.slice A1 a.length c1] 22)).alloc (.cells #[.slice A2 b.length c2] 22)) (Bx + 1) 22 (.slice none 0 0) := by
    have b2 := ((Boxed.new (w.alloc (.cells #[.slice A1 a.length c1] 22)) 22 (.slice none 0 0)).alloc (.cells #[.slice A1 a.length c1] 22)).alloc (.cells #[.slice A2 b.length c2] 22)
    simp only [World.size_alloc, hBx] at b2
    exact b2
  have hsz : ((((w.alloc (.cells #[.slice A1 a.length c1] 22)).alloc (.cells #[.slice none 0 0] 22)).alloc (.cells #[.slice A1 a.length c1] 22)).alloc (.cells #[.slice A2 b.length c2] 22)).heap.size = Bx + 4 := by simp [hBx]
  obtain ⟨W0, hW0⟩ : ∃ W0, (((w.alloc (.cells #[.slice A1 a.length c1] 22)).alloc (.cells #[.slice none 0 0] 22)).alloc (.cells #[.slice A1 a.length c1] 22)).alloc (.cells #[.slice A2 b.length c2] 22) = W0 := ⟨_, rfl⟩
  rw [hW0] at hg0 hb0 hsz
  rw [hW0, hBx]
  clear hW0
  have hG1 : ∀ W : World, E.CG w Bx (.slice A1 a.length c1) (.slice A2 b.length c2) W → Boxed W (Bx + 1 + 1) 22 (.slice A1 a.length c1) ∧ Boxed W (Bx + 1 + 1 + 1) 22 (.slice A2 b.length c2) ∧ Reads W B 1 A1 a.length (E.ns a) ∧ Reads W B 1 A2 b.length (E.ns b) ∧ B ≤ W.heap.size := fun W h =>
    ⟨h.2.1, h.2.2.1, ha.below h.2.2.2.1 (by omega), hb.below h.2.2.2.1 (by omega), Nat.le_trans hB h.2.2.2.1.size⟩
  refine range_ok rfl (by decide) (gf := 33) (lb := #[.pointer (some ⟨Bx + 1 + 1, 0, none⟩), .pointer (some ⟨Bx + 1 + 1 + 1, 0, none⟩)]) rfl trivial (enters_of Try.func33 (by kernel_rfl) rfl)
    (walk_stops 9 (by decide) (Bx + 1 + 1) (Bx + 1 + 1 + 1) A1 A2 c1 c2 B a b hna hnb (E.CG w Bx (.slice A1 a.length c1) (.slice A2 b.length c2)) (E.CF Bx) hG1 (fun W W' hb' h => E.CG.below hBx h hb') (fun W W' h hb' => E.CG.free h hb') (fun T H W k h => h.drewN k) W0 hg0)
    (fun h k => h.trans k) (fun W l o o' hl ho hc _ => E.kp_put o' hBx (by omega) ho hc) (Below.refl _ _) (fun _ => rfl)
    (fun pre W => E.CG w Bx (.slice A1 a.length c1) (.slice A2 b.length c2) W ∧ ∃ v, Boxed W (Bx + 1) 22 v ∧ W.ownsRow (Bx + 4) 3 1 v (E.cst a pre).length (E.ns (E.cst a pre)) ∧ True)
    (fun _ _ _ => False)
    (OwnFrom.and (fun _ W W' row h hg hr => E.CG.kept hBx h hg (fun r e => by have := (hr r e).1; omega)) (Own.from (holdsRow_own (Bx + 4) (Bx + 1) 22 3 1 (fun pre => (E.cst a pre).length) (fun pre => E.ns (E.cst a pre)) (fun _ _ => True)) _))
    (fun _ _ _ _ _ hs _ _ => hs)
    ⟨hg0, _, hb0, World.ownsRow_nil _ _ _ _, trivial⟩
    (fun x => { tmps := #[.slice A1 a.length c1, .slice A2 b.length c2, .pointer (some ⟨Bx, 0, none⟩), undef, .slice none 0 0, .pointer (some ⟨Bx + 1, 0, none⟩), .int .i64 x.1, .int .i64 x.2, .slice A1 a.length c1, .slice A2 b.length c2, .func (.func 33) #[] #[.pointer (some ⟨Bx + 1 + 1, 0, none⟩), .pointer (some ⟨Bx + 1 + 1 + 1, 0, none⟩)], .int .i64 x.1, .int .i64 x.2, undef, undef, undef, undef, undef, undef, undef, undef, undef, undef], defers := [] })
    ?assign ?body ?done ?stop
  case assign =>
    rintro l x W K hK
    dsimp only [E.sv]
    gi_wp2
    exact hK
  case body =>
    rintro l pre x W hl ⟨r, hrl⟩ ⟨hg, v, hv, hrow, -⟩ hok
    obtain ⟨hxa, hnx⟩ := E.ys_next hok
    have hpl := E.ys_pre_len hok
    have hcl := E.cst_len a pre
    have hsW : Bx + 4 ≤ W.heap.size := by have := hg.2.2.1.lt; omega
    by_cases h0 : x.1 = 0
    · have q0 : (((x.1 : Nat) : Int) == 0) = true := beq_iff_eq.2 (by omega)
      have hx2 : x.2 < a.length := by omega
      have q1 : (0 : Int) ≤ (x.2 : Int) := by omega
      have q2 : (x.2 : Int) < (a.length : Int) := by omega
      have hfin : ∀ (v' : Value) (W2 : World), W2.ownsRow (Bx + 4) 3 1 v' ((E.cst a pre).length + 1) (E.ns (E.cst a pre) ++ [.int .i64 (a.getD x.2 default)]) → (W.alloc (.cells #[.int .i64 (a.getD x.2 default)] 3)).drew.grownBy W2 v.ownBlock → (v'.ownBlock = v.ownBlock ∨ v'.ownBlock = some (W.alloc (.cells #[.int .i64 (a.getD x.2 default)] 3)).drew.heap.size) →
          KeepsFrom W0.heap.size W (W2.setCell ⟨Bx + 1, 0, none⟩ v') ∧ E.Kp (E.CG w Bx (.slice A1 a.length c1) (.slice A2 b.length c2)) (E.CF Bx) W (W2.setCell ⟨Bx + 1, 0, none⟩ v') ∧ E.CG w Bx (.slice A1 a.length c1) (.slice A2 b.length c2) (W2.setCell ⟨Bx + 1, 0, none⟩ v') ∧
            ∃ v, Boxed (W2.setCell ⟨Bx + 1, 0, none⟩ v') (Bx + 1) 22 v ∧ (W2.setCell ⟨Bx + 1, 0, none⟩ v').ownsRow (Bx + 4) 3 1 v (E.cst a (pre ++ [x])).length (E.ns (E.cst a (pre ++ [x]))) ∧ True := by
        intro v' W2 hown' hgrow hnew
        have hW1 : Below W.heap.size W ((W.alloc (.cells #[.int .i64 (a.getD x.2 default)] 3)).drew) := below_drewN ((Below.refl _ W).alloc (Nat.le_refl _) _) 1
        have hk1 := E.kp_below (w := w) (Bx := Bx) (a1 := .slice A1 a.length c1) (a2 := .slice A2 b.length c2) hBx hW1
        have hv1 := boxed_below hv hW1
        have hk2 := E.kp_grow (w := w) (Bx := Bx) (a1 := .slice A1 a.length c1) (a2 := .slice A2 b.length c2) hBx hv1 (fun g hg' => (hrow.lt g hg').1) hgrow (hnew.imp id (fun e => ⟨_, Nat.le_refl _, (hown'.lt _ e).2, e⟩))
        have hk := hk1.trans hk2
        have hv2 : Boxed W2 (Bx + 1) 22 v := hv1.kept hgrow (hv.not_row (by decide) hrow)
        have hcells : ∀ (j : Nat) (o : Obj), v.ownBlock = some j → (W.alloc (.cells #[.int .i64 (a.getD x.2 default)] 3)).drew.heap[j]? = some o → o.isCells = true := fun j o e ho => by
          have := (own_keep hrow hW1)
          obtain ⟨cur, hc⟩ := E.own_type this e
          rw [hc] at ho; cases ho; rfl
        refine ⟨?_, hk, hk.1 hg, v', hv2.set v', ?_, trivial⟩
        · exact (KeepsFrom.of_grownBy (below_grown hW1) (by simp)).trans (((KeepsOthers.of_grownBy hgrow hcells).trans (KeepsOthers.setCell _ _ _)).from _)
        · rw [E.cst_snoc, h0]
          have := hown'.kept (grownBy_setCell' W2 (Bx + 1) v') (.inr (hv2.not_row (by decide) hown').symm)
          simpa [E.ns] using this
      obtain ⟨ba, oa, rfl, hba, hca⟩ := (ha.below hg.2.2.2.1 (by omega)).num (by omega)
      have x0 := hca x.2 hx2
      rw [← getD_at (d := default) hx2] at x0
      have cA := hg.1.cell
      have cO := hv.cell
      clear hca hnx hG1 hxa
      generalize a.getD x.2 default = z at hfin x0
      have hbx : ∀ W2 : World, (W.alloc (.cells #[.int .i64 z] 3)).drew.grownBy W2 v.ownBlock → Boxed W2 (Bx + 1) 22 v := fun W2 hg2 => (show Boxed (W.alloc (.cells #[.int .i64 z] 3)).drew (Bx + 1) 22 v from hv.alloc _).kept hg2 (hv.not_row (by decide) hrow)
      have cO1 := (hv.alloc (.cells #[.int .i64 z] 3)).cell
      gi_wp2
      refine region_round (by kernel_rfl) (by kernel_rfl) ?_
      -- TREE
      refine wpAnyIn_take (i := 2) (v := ?v2) rfl rfl (by kernel_rfl) (by kernel_rfl) (by kernel_rfl) (fun _ _ _ h => h) ⟨Or.inl ⟨by rfl, ?y2⟩, fun _ => rfl⟩ ?r2
      case y2 => (intro w; go_simp; try (with_reducible rfl))
      refine wpAnyIn_ready (rs := [0, 1]) (by kernel_rfl) (by simp) ?_
      refine AllReadyIn.cons rfl (fun K hK => ?_) ?_
      · go_simp; refine hK _ _ ?_; clear hK K
        refine wpAnyIn_ready (rs := [1]) (by kernel_rfl) (by simp) ?_
        refine AllReadyIn.cons rfl (fun K hK => ?_) AllReadyIn.nil
        go_simp; refine hK _ _ ?_; clear hK K
        refine wpAnyIn_ready (rs := [3]) (by kernel_rfl) (by simp) ?_
        refine AllReadyIn.cons rfl (fun K hK => ?_) AllReadyIn.nil
        go_simp; refine hK _ _ ?_; clear hK K
        refine wpAnyIn_ready (rs := [4]) (by kernel_rfl) (by simp) ?_
        refine AllReadyIn.cons rfl (fun K hK => ?_) AllReadyIn.nil
        go_simp; refine hK _ _ ?_; clear hK K
        refine wpAnyIn_ready (rs := [5]) (by kernel_rfl) (by simp) ?_
        refine AllReadyIn.cons rfl (fun K hK => ?_) AllReadyIn.nil
        go_simp; refine hK _ _ ?_; clear hK K
        refine wpAnyIn_ready (rs := [6]) (by kernel_rfl) (by simp) ?_
        refine AllReadyIn.cons rfl (fun K hK => ?_) AllReadyIn.nil
        refine stepIn_append_any rfl rfl (.tmp 15) (.tmp 20) 22 rfl (Bx + 4) 3 i0 _ 1 8 Try.underlying22 hi hz0 hz1 hz2 rfl (by decide) v _ _ rfl (hrow.alloc _) _ _ 1 1 [.int .i64 z] rfl (reads_new W [.int .i64 z] 3) (by simp [Value.oneCell']) (by unfold maxLen; omega) (by omega) (by simp; omega) ?_
        intro v' W2 hown' hgrow hnew
        obtain ⟨gg, cap', rfl⟩ := ownsRow_succ hown'
        have hv2 := hbx W2 hgrow
        have cO2 := hv2.cell
        have fO2 := hv2.frozen
        try go_simp
        refine hK _ _ ?_; clear hK K
        refine wpAnyIn_ready (rs := [7]) (by kernel_rfl) (by simp) ?_
        refine AllReadyIn.cons rfl (fun K hK => ?_) AllReadyIn.nil
        go_simp; refine hK _ _ ?_; clear hK K
        refine wpAnyIn_done (by kernel_rfl) ?_ _
        exact hfin _ W2 hown' hgrow hnew
      refine AllReadyIn.cons rfl (fun K hK => ?_) ?_
      · go_simp; refine hK _ _ ?_; clear hK K
        refine wpAnyIn_ready (rs := [0, 3]) (by kernel_rfl) (by simp) ?_
        refine AllReadyIn.cons rfl (fun K hK => ?_) ?_
        · go_simp; refine hK _ _ ?_; clear hK K
          refine wpAnyIn_ready (rs := [3]) (by kernel_rfl) (by simp) ?_
          refine AllReadyIn.cons rfl (fun K hK => ?_) AllReadyIn.nil
          go_simp; refine hK _ _ ?_; clear hK K
          refine wpAnyIn_ready (rs := [4]) (by kernel_rfl) (by simp) ?_
          refine AllReadyIn.cons rfl (fun K hK => ?_) AllReadyIn.nil
          go_simp; refine hK _ _ ?_; clear hK K
          refine wpAnyIn_ready (rs := [5]) (by kernel_rfl) (by simp) ?_
          refine AllReadyIn.cons rfl (fun K hK => ?_) AllReadyIn.nil
          go_simp; refine hK _ _ ?_; clear hK K
          refine wpAnyIn_ready (rs := [6]) (by kernel_rfl) (by simp) ?_
          refine AllReadyIn.cons rfl (fun K hK => ?_) AllReadyIn.nil
          refine stepIn_append_any rfl rfl (.tmp 15) (.tmp 20) 22 rfl (Bx + 4) 3 i0 _ 1 8 Try.underlying22 hi hz0 hz1 hz2 rfl (by decide) v _ _ rfl (hrow.alloc _) _ _ 1 1 [.int .i64 z] rfl (reads_new W [.int .i64 z] 3) (by simp [Value.oneCell']) (by unfold maxLen; omega) (by omega) (by simp; omega) ?_
          intro v' W2 hown' hgrow hnew
          obtain ⟨gg, cap', rfl⟩ := ownsRow_succ hown'
          have hv2 := hbx W2 hgrow
          have cO2 := hv2.cell
          have fO2 := hv2.frozen
          try go_simp
          refine hK _ _ ?_; clear hK K
          refine wpAnyIn_ready (rs := [7]) (by kernel_rfl) (by simp) ?_
          refine AllReadyIn.cons rfl (fun K hK => ?_) AllReadyIn.nil
          go_simp; refine hK _ _ ?_; clear hK K
          refine wpAnyIn_done (by kernel_rfl) ?_ _
          exact hfin _ W2 hown' hgrow hnew
        refine AllReadyIn.cons rfl (fun K hK => ?_) ?_
        · go_simp; refine hK _ _ ?_; clear hK K
          refine wpAnyIn_ready (rs := [0, 4]) (by kernel_rfl) (by simp) ?_
          refine AllReadyIn.cons rfl (fun K hK => ?_) ?_
          · go_simp; refine hK _ _ ?_; clear hK K
            refine wpAnyIn_ready (rs := [4]) (by kernel_rfl) (by simp) ?_
            refine AllReadyIn.cons rfl (fun K hK => ?_) AllReadyIn.nil
            go_simp; refine hK _ _ ?_; clear hK K
            refine wpAnyIn_ready (rs := [5]) (by kernel_rfl) (by simp) ?_
            refine AllReadyIn.cons rfl (fun K hK => ?_) AllReadyIn.nil
            go_simp; refine hK _ _ ?_; clear hK K
            refine wpAnyIn_ready (rs := [6]) (by kernel_rfl) (by simp) ?_
            refine AllReadyIn.cons rfl (fun K hK => ?_) AllReadyIn.nil
            refine stepIn_append_any rfl rfl (.tmp 15) (.tmp 20) 22 rfl (Bx + 4) 3 i0 _ 1 8 Try.underlying22 hi hz0 hz1 hz2 rfl (by decide) v _ _ rfl (hrow.alloc _) _ _ 1 1 [.int .i64 z] rfl (reads_new W [.int .i64 z] 3) (by simp [Value.oneCell']) (by unfold maxLen; omega) (by omega) (by simp; omega) ?_
            intro v' W2 hown' hgrow hnew
            obtain ⟨gg, cap', rfl⟩ := ownsRow_succ hown'
            have hv2 := hbx W2 hgrow
            have cO2 := hv2.cell
            have fO2 := hv2.frozen
            try go_simp
            refine hK _ _ ?_; clear hK K
            refine wpAnyIn_ready (rs := [7]) (by kernel_rfl) (by simp) ?_
            refine AllReadyIn.cons rfl (fun K hK => ?_) AllReadyIn.nil
            go_simp; refine hK _ _ ?_; clear hK K
            refine wpAnyIn_done (by kernel_rfl) ?_ _
            exact hfin _ W2 hown' hgrow hnew
          refine AllReadyIn.cons rfl (fun K hK => ?_) ?_
          · go_simp; refine hK _ _ ?_; clear hK K
            refine wpAnyIn_ready (rs := [0, 5]) (by kernel_rfl) (by simp) ?_
            refine AllReadyIn.cons rfl (fun K hK => ?_) ?_
            · go_simp; refine hK _ _ ?_; clear hK K
              refine wpAnyIn_ready (rs := [5]) (by kernel_rfl) (by simp) ?_
              refine AllReadyIn.cons rfl (fun K hK => ?_) AllReadyIn.nil
              go_simp; refine hK _ _ ?_; clear hK K
              refine wpAnyIn_ready (rs := [6]) (by kernel_rfl) (by simp) ?_
              refine AllReadyIn.cons rfl (fun K hK => ?_) AllReadyIn.nil
              refine stepIn_append_any rfl rfl (.tmp 15) (.tmp 20) 22 rfl (Bx + 4) 3 i0 _ 1 8 Try.underlying22 hi hz0 hz1 hz2 rfl (by decide) v _ _ rfl (hrow.alloc _) _ _ 1 1 [.int .i64 z] rfl (reads_new W [.int .i64 z] 3) (by simp [Value.oneCell']) (by unfold maxLen; omega) (by omega) (by simp; omega) ?_
              intro v' W2 hown' hgrow hnew
              obtain ⟨gg, cap', rfl⟩ := ownsRow_succ hown'
              have hv2 := hbx W2 hgrow
              have cO2 := hv2.cell
              have fO2 := hv2.frozen
              try go_simp
              refine hK _ _ ?_; clear hK K
              refine wpAnyIn_ready (rs := [7]) (by kernel_rfl) (by simp) ?_
              refine AllReadyIn.cons rfl (fun K hK => ?_) AllReadyIn.nil
              go_simp; refine hK _ _ ?_; clear hK K
              refine wpAnyIn_done (by kernel_rfl) ?_ _
              exact hfin _ W2 hown' hgrow hnew
            refine AllReadyIn.cons rfl (fun K hK => ?_) ?_
            · go_simp; refine hK _ _ ?_; clear hK K
              refine wpAnyIn_ready (rs := [0]) (by kernel_rfl) (by simp) ?_
              refine AllReadyIn.cons rfl (fun K hK => ?_) AllReadyIn.nil
              go_simp; refine hK _ _ ?_; clear hK K
              refine wpAnyIn_ready (rs := [6]) (by kernel_rfl) (by simp) ?_
              refine AllReadyIn.cons rfl (fun K hK => ?_) AllReadyIn.nil
              refine stepIn_append_any rfl rfl (.tmp 15) (.tmp 20) 22 rfl (Bx + 4) 3 i0 _ 1 8 Try.underlying22 hi hz0 hz1 hz2 rfl (by decide) v _ _ rfl (hrow.alloc _) _ _ 1 1 [.int .i64 z] rfl (reads_new W [.int .i64 z] 3) (by simp [Value.oneCell']) (by unfold maxLen; omega) (by omega) (by simp; omega) ?_
              intro v' W2 hown' hgrow hnew
              obtain ⟨gg, cap', rfl⟩ := ownsRow_succ hown'
              have hv2 := hbx W2 hgrow
              have cO2 := hv2.cell
              have fO2 := hv2.frozen
              try go_simp
              refine hK _ _ ?_; clear hK K
              refine wpAnyIn_ready (rs := [7]) (by kernel_rfl) (by simp) ?_
              refine AllReadyIn.cons rfl (fun K hK => ?_) AllReadyIn.nil
              go_simp; refine hK _ _ ?_; clear hK K
              refine wpAnyIn_done (by kernel_rfl) ?_ _
              exact hfin _ W2 hown' hgrow hnew
            exact AllReadyIn.nil
          exact AllReadyIn.nil
        exact AllReadyIn.nil
      exact AllReadyIn.nil
      -- END TREE
    · have q0 : (((x.1 : Nat) : Int) == 0) = false := beq_eq_false_iff_ne.2 (by omega)
      gi_wp2
      exact ⟨KeepsFrom.refl _ _, E.Kp.refl _ _ _, hg, v, hv, by rw [E.cst_snoc, if_neg h0, List.append_nil]; exact hrow, trivial⟩
  case done =>
    rintro D W hD ⟨hg, v, hv, hrow, -⟩ hK
    have hc := hv.cell
    gi_wp2
    refine ⟨by simp, .inl ⟨_, _, rfl, run_takeDeferred hK, ?_⟩⟩
    refine ⟨_, results_tmp rfl _ _ _, v, rfl, ?_⟩
    rw [hBx]
    rw [E.cst_common] at hrow
    exact ⟨own_less (ownsRow_putObj hrow _ hK rfl) (by omega), hg.2.2.2.1.trans (belowK_b (w := w) (by omega) W D _ _ (by omega) hK rfl rfl)⟩
  case stop =>
    rintro D c pre W _ _ h _
    exact h.elim
end Go.Proofs.Ytpigimmgadcogaa
