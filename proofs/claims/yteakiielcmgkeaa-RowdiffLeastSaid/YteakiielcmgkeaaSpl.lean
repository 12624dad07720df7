/-
  The walks of layer 17: Splices. By an AI agent.
-/
import Derived.Test.YteakiielcmgkeaaOwn
import Derived.Test.YteakiielcmgkeaaRpl
import Derived.Test.YteakiielcmgkeaaRk
import Derived.Test.YteakiielcmgkeaaScpG
import Derived.Test.YteakiielcmgkeaaFn
namespace Go.Proofs.Yteakiielcmgkeaa
open Go.RowKit Go.Deep Go.Joins

namespace R
/-- What edits move. -/
def moved (l : List (E.Ed G)) : Int := (l.map fun e => (e.ins.length : Int) - e.del).sum
theorem ofEd_snoc (l : List (E.Ed G)) (e : E.Ed G) : ∀ m : Int, ofEd m (l ++ [e]) = ofEd m l ++ [⟨e.at_ + (m + moved l), e.del, e.ins⟩] := by
  induction l with
  | nil => intro m; simp [ofEd, moved]
  | cons x l ih =>
    intro m
    simp only [List.cons_append, ofEd, ih, moved, List.map_cons, List.sum_cons]
    congr 4
    omega
set_option maxRecDepth 100000 in
theorem moved_bd {l : List (E.Ed G)} (h : ∀ x ∈ l, 0 ≤ x.at_ ∧ 0 ≤ x.del ∧ x.del ≤ 200 ∧ x.ins.length ≤ 200) : ∀ k : Nat, -(k * 1000 : Nat) ≤ moved (l.take k) ∧ moved (l.take k) ≤ (k * 1000 : Nat) := by
  induction l with
  | nil => intro k; simp [moved]; omega
  | cons e l ih =>
    intro k
    cases k with
    | zero => simp [moved]
    | succ k =>
      have := ih (fun x hx => h x (by simp [hx])) k
      have h2 := h e (by simp)
      simp only [List.take_succ_cons, moved, List.map_cons, List.sum_cons] at this ⊢
      omega
theorem moved_snoc (l : List (E.Ed G)) (e : E.Ed G) : moved (l ++ [e]) = moved l + ((e.ins.length : Int) - e.del) := by simp [moved]
end R
namespace E
/-- Edits in memory, over any elements. -/
structure RdG {α : Type} (sz : Nat) (cv : α → List Value) (w : World) (B : Nat) (A : Option Addr) (xs : List (Es α)) : Prop where
  row : Reads w B 3 A xs.length (xs.flatMap ec)
  ins : ∀ x ∈ xs, ∃ A' c, x.sl = .slice A' x.ed.ins.length c ∧ Reads w B sz A' x.ed.ins.length (x.ed.ins.flatMap cv)
theorem RdG.below {α : Type} {sz : Nat} {cv : α → List Value} {w w' : World} {B B₁ : Nat} {A : Option Addr} {xs : List (Es α)} (h : RdG sz cv w B A xs) (hb : Below B₁ w w') (hB : B ≤ B₁) : RdG sz cv w' B A xs :=
  ⟨h.row.below hb hB, fun x hx => let ⟨A', c, h1, h2⟩ := h.ins x hx; ⟨A', c, h1, h2.below hb hB⟩⟩
theorem Eds.rdg {α : Type} {sz : Nat} {cv : α → List Value} {w : World} {TE TI base : Nat} {v : Value} {es : List (Es α)} (h : Eds TE TI sz cv base w v es) : ∃ A c, v = .slice A es.length c ∧ RdG sz cv w w.heap.size A es := by
  obtain ⟨A, c, hv, hr⟩ := own_reads h.own
  refine ⟨A, c, hv, hr, fun x hx => ?_⟩
  obtain ⟨A', c', hv', hr'⟩ := own_reads (h.ins x hx)
  exact ⟨A', c', hv', hr'⟩
theorem RdG.at_ {α : Type} {sz : Nat} {cv : α → List Value} {w : World} {B : Nat} {A : Option Addr} {xs : List (Es α)} (h : RdG sz cv w B A xs) (hn : 0 < xs.length) :
    ∃ b off, A = some ⟨b, off, none⟩ ∧ b < B ∧ ∀ k (hk : k < xs.length), w.cell? ⟨b, off + k * 3, none⟩ = some (.int .i64 xs[k].ed.at_) ∧ w.cell? ⟨b, off + k * 3 + 1, none⟩ = some (.int .i64 xs[k].ed.del) ∧ w.cell? ⟨b, off + k * 3 + 2, none⟩ = some xs[k].sl := by
  obtain ⟨b, off, e, hb, hc⟩ := h.row.flat hn (by decide)
  refine ⟨b, off, e, hb, fun k hk => ?_⟩
  have hg : ∀ j, j < 3 → (xs.flatMap ec)[k * 3 + j]? = (ec xs[k])[j]? := fun j hj => by
    rw [flat_get ec 3 xs ec_len k j hj, List.getElem?_eq_getElem hk]
    rfl
  exact ⟨hc (k * 3 + 0) _ (hg 0 (by decide)), hc (k * 3 + 1) _ (hg 1 (by decide)), hc (k * 3 + 2) _ (hg 2 (by decide))⟩
end E
namespace E
theorem app_in_ {α : Type} [DecidableEq α] {a : List α} : ∀ {l : List (Ed α)} {e : Nat} {r : List α}, app a e l = .ok r → ∀ x ∈ l, 0 ≤ x.at_ ∧ 0 ≤ x.del ∧ x.at_ + x.del ≤ a.length
  | [], _, _, _, x, hx => by cases hx
  | y :: l, e, r, h, x, hx => by
    obtain ⟨h1, h2, h3, h4, r', h5, _⟩ := app_ok h
    rcases List.mem_cons.1 hx with rfl | hx
    · exact ⟨h1, h2, h3⟩
    · exact app_in_ h5 x hx
end E

theorem heap_old_ (w : World) (o : Obj) {n : Nat} {x : Obj} (h : w.heap[n]? = some x) : (w.alloc o).heap[n]? = some x := by
  rw [Below.heap_alloc w o n (Array.getElem?_eq_some_iff.1 h).1]; exact h
theorem reads_block_ (w : World) (cs : List Value) (t : TypeId) (size : Nat) (hn : cs.length = 1 * size) : Reads (w.alloc (.cells cs.toArray t)) (w.alloc (.cells cs.toArray t)).heap.size size (some ⟨w.heap.size, 0, none⟩) 1 cs := reads_block w cs t size 1 hn
theorem infoC : (Try.prog.info? 29).map (fun i => (i.zero, i.size, i.bytes)) = some (some (.agg #[.int .i64 0, .int .i64 0, .int .i64 0, .int .i64 0, .int .i64 0, .slice none 0 0]), 6, 64) := by kernel_rfl

/-- What Splices hands back. -/
def R.SOut (row : Int) (cs : List (R.Ch R.G)) (w w' : World) (e : Ending) : Prop := ∃ v xs, e = .returned v ∧ R.Own w.heap.size w' v xs ∧ xs.map (·.c) = cs.map (R.Cx.of row) ∧ Below w.heap.size w w'
theorem script_lowG {a b : List R.G} (hna : a.length ≤ 100) (hnb : b.length ≤ 100) : (E.script a b).length ≤ 200 ∧ ∀ x ∈ E.script a b, 0 ≤ x.at_ ∧ 0 ≤ x.del ∧ x.del ≤ 200 ∧ x.ins.length ≤ 200 := by
  have h := (E.sst_low b (E.ys a b)).1
  have hl := E.ys_len a b
  rw [E.sst_script] at h
  exact ⟨by have := h.1; omega, fun x hx => by have := h.2 x hx; omega⟩
theorem R.gl_bd {xs : List R.Cs} {l : List (E.Ed R.G)} {row : Int} (h : xs.map (·.c) = (R.ofEd 0 l).map (R.Cx.of row)) (hl : ∀ x ∈ l, 0 ≤ x.at_ ∧ 0 ≤ x.del ∧ x.del ≤ 200 ∧ x.ins.length ≤ 200) : ∀ x ∈ xs, x.c.gl.length ≤ 100000 := by
  have key : ∀ (l : List (E.Ed R.G)) (m : Int), (∀ x ∈ l, x.ins.length ≤ 200) → ∀ c ∈ R.ofEd m l, c.gl.length ≤ 200 := by
    intro l
    induction l with
    | nil => intro m _ c hc; simp [R.ofEd] at hc
    | cons e l ih =>
      intro m hb c hc
      simp only [R.ofEd, List.mem_cons] at hc
      rcases hc with rfl | hc
      · exact hb e (by simp)
      · exact ih _ (fun x hx => hb x (by simp [hx])) c hc
  intro x hx
  have hm : x.c ∈ xs.map (·.c) := List.mem_map.2 ⟨x, hx, rfl⟩
  rw [h] at hm
  obtain ⟨c, hc, e⟩ := List.mem_map.1 hm
  have := key l 0 (fun x hx => (hl x hx).2.2.2) c hc
  rw [← e]
  simp only [R.Cx.of]
  omega
theorem R.costX_of {xs : List R.Cs} {cs : List (R.Ch R.G)} {row : Int} (h : xs.map (·.c) = cs.map (R.Cx.of row)) : R.costX xs = R.cost cs := by
  have e1 : R.costX xs = ((xs.map (·.c)).map R.priceX).sum := by unfold R.costX; rw [List.map_map]; rfl
  rw [e1, h, List.map_map]
  rfl
theorem at_le {X Y : List R.G} {e : E.Ed R.G} (h : e ∈ E.script X Y) (hX : X.length ≤ 100000) : e.at_ ≤ 100000 := by
  have := E.app_in_ (E.app_script X Y) e h
  omega
set_option linter.unusedSimpArgs false in
set_option maxRecDepth 100000 in
set_option maxHeartbeats 16000000 in
theorem splices_any (A1 A2 : Option Addr) (c1 c2 B : Nat) (row : Int) (a b : List R.G) (w : World) (ha : Reads w B 3 A1 a.length (R.gcs a)) (hb : Reads w B 3 A2 b.length (R.gcs b)) (hB : B ≤ w.heap.size) (hla : a.length ≤ 100) (hlb : b.length ≤ 100) (hca : a.length ≤ c1) (hcb : b.length ≤ c2) :
    Calls Try.prog 14 #[.int .i64 row, .slice A1 a.length c1, .slice A2 b.length c2] w fun e w' => R.SOut row (R.splices R.bl a b) w w' e := by
  obtain ⟨iC, hiC, hC0, hC1, hC2⟩ := info_parts infoC
  have T1 := Lib.hid (trim_any A1 c1 B a w ha hB (by omega) hca)
  have HB := Lib.hid hb
  have la := trim_len a
  have lb := trim_len b
  clear ha hb
  go_enter Try.func14, Try.ntmps14
  go_wp2_with fail
  refine T1.out.mono ?_
  rintro e w1 ⟨v1, rfl, own1, b1⟩
  obtain ⟨A3, c3, rfl, r3, hc3⟩ := own_reads_cap own1
  have R3 := Lib.hid r3
  have HB1 := Lib.hid b1
  have T2 := Lib.hid (trim_any A2 c2 B b w1 (HB.out.below b1 hB) (Nat.le_trans hB b1.size) (by omega) hcb)
  have hs1 := b1.size
  clear T1 HB own1 r3 b1
  go_wp2_with fail
  refine T2.out.mono ?_
  rintro e w2 ⟨v2, rfl, own2, b2⟩
  obtain ⟨A4, c4, rfl, r4, hc4⟩ := own_reads_cap own2
  have R4 := Lib.hid r4
  have R32 := Lib.hid ((R3.out.below b2 (Nat.le_refl _)).more b2.size)
  have HB2 := Lib.hid (HB1.out.trans (b2.mono hs1))
  have hs2 := b2.size
  clear T2 own2 r4 b2 R3 HB1
  obtain ⟨X, hX⟩ : ∃ X, R.trimEnd R.bl a = X := ⟨_, rfl⟩
  obtain ⟨Y, hY⟩ : ∃ Y, R.trimEnd R.bl b = Y := ⟨_, rfl⟩
  have SP : Hid (R.splices R.bl a b = if R.ofEd 0 (E.script X Y) ≠ [] ∧ R.cost [(⟨0, (X.length : Nat), Y⟩ : R.Ch R.G)] < R.cost (R.ofEd 0 (E.script X Y)) then [⟨0, (X.length : Nat), Y⟩] else R.ofEd 0 (E.script X Y)) := Lib.hid (by rw [← hX, ← hY]; rfl)
  have TX : Hid (R.trimEnd R.bl X = X) := Lib.hid (by rw [← hX]; exact R.trim_trim R.bl a)
  have TY : Hid (R.trimEnd R.bl Y = Y) := Lib.hid (by rw [← hY]; exact R.trim_trim R.bl b)
  rw [hX] at la R32 hc3 ⊢
  rw [hY] at lb R4 hc4 ⊢
  clear hX hY
  have SC := Lib.hid (scriptG_in A3 A4 c3 c4 w2.heap.size X Y w2 R32.out R4.out (Nat.le_refl _) (by omega) (by omega))
  go_wp2_with fail
  refine SC.out.mono ?_
  rintro e w3 ⟨v3, es, rfl, hes, hed, b3⟩
  obtain ⟨A7, c7, rfl, rd⟩ := hes.rdg
  have RD := Lib.hid rd
  have hel : es.length = (E.script X Y).length := by rw [← hed, List.length_map]
  have LOW := Lib.hid (script_lowG (a := X) (b := Y) (by omega) (by omega))
  have EDS : Hid (∀ k (h : k < es.length), es[k].ed ∈ E.script X Y ∧ (E.script X Y).take (k + 1) = (E.script X Y).take k ++ [es[k].ed]) := Lib.hid (fun k h => by
    have e : es[k].ed = (E.script X Y)[k]'(by omega) := by
      have := congrArg (fun l => l[k]?) hed
      simpa [h, hel ▸ h] using this
    rw [e]
    exact ⟨List.getElem_mem _, by rw [List.take_succ_eq_append_getElem (by omega)]⟩)
  have HB3 := Lib.hid (HB2.out.trans (b3.mono (Nat.le_trans hs1 hs2)))
  have R33 := Lib.hid ((R32.out.below b3 (Nat.le_refl _)).more b3.size)
  have R43 := Lib.hid ((R4.out.below b3 (Nat.le_refl _)).more b3.size)
  have hes200 : es.length ≤ 200 := by rw [hel]; exact LOW.out.1
  have hs3 := b3.size
  have hNs : w.heap.size ≤ w3.heap.size := Nat.le_trans hs1 (Nat.le_trans hs2 hs3)
  obtain ⟨N, hN⟩ : ∃ N, w.heap.size = N := ⟨_, rfl⟩
  have HN := Lib.hid hN
  rw [hN] at HB3 hNs
  have HEL := Lib.hid hel
  clear SC hes rd hed b3 HB2 R32 R4 hN hel
  go_wp2_with fail
  go_loopw [7, 8, 20] (fun v7 v8 v20 wr => ∃ (k : Nat) (xs : List R.Cs), k ≤ es.length ∧ v20 = .int .i64 k ∧ v8 = .int .i64 (R.moved ((E.script X Y).take k)) ∧ xs.length = k ∧ Hid (xs.map (·.c) = (R.ofEd 0 ((E.script X Y).take k)).map (R.Cx.of row)) ∧ Hid (R.Own w3.heap.size wr v7 xs) ∧ Hid (Below w3.heap.size w3 wr)) (fun _ _ v _ => es.length - (intOf v).toNat)
  case atStart => exact ⟨0, [], Nat.zero_le _, rfl, rfl, rfl, Lib.hid rfl, Lib.hid (R.Own.nil _), Lib.hid (Below.refl _ _)⟩
  case round =>
    obtain ⟨k, xs, hk, rfl, rfl, hxl0, hxs, hown, hbl⟩ := hrel
    have HXL := Lib.hid hxl0
    have hxl1 : xs.length ≤ 200 := by omega
    clear hxl0
    by_cases hlt : k < es.length
    · obtain ⟨b7, o7, rfl, hb7, h7⟩ := (RD.out.below hbl.out (Nat.le_refl _)).at_ (by omega)
      obtain ⟨z0, z1, z2⟩ := h7 k hlt
      obtain ⟨A5, c5, s5, r5⟩ := RD.out.ins es[k] (List.getElem_mem hlt)
      rw [s5] at z2
      have lo := LOW.out.2 _ (EDS.out k hlt).1
      have TK := Lib.hid (EDS.out k hlt).2
      have MV := Lib.hid (R.moved_snoc ((E.script X Y).take k) es[k].ed)
      have OF := Lib.hid (R.ofEd_snoc ((E.script X Y).take k) es[k].ed 0)
      have hmv : -(k * 1000 : Nat) ≤ R.moved ((E.script X Y).take k) ∧ R.moved ((E.script X Y).take k) ≤ (k * 1000 : Nat) := R.moved_bd LOW.out.2 k
      have hat : es[k].ed.at_ ≤ 100000 := by have := LOW.out.2 _ (EDS.out k hlt).1; exact at_le (EDS.out k hlt).1 (by omega)
      have R5 := Lib.hid r5
      have q1 : (0 : Int) ≤ (k : Int) := by omega
      have q2 : (k : Int) < (es.length : Int) := by omega
      have HCX : Hid (R.Cx.of row ⟨es[k].ed.at_ + (0 + R.moved ((E.script X Y).take k)), es[k].ed.del, es[k].ed.ins⟩ = ⟨3, row, es[k].ed.at_ + R.moved ((E.script X Y).take k), es[k].ed.del, 0, es[k].ed.ins⟩) := Lib.hid (by simp [R.Cx.of])
      clear h7 s5 r5
      generalize es[k].ed = ee at *
      obtain ⟨eat, edel, ei⟩ := ee
      simp only at z0 z1 z2 lo R5 HCX MV OF hat
      generalize R.moved ((E.script X Y).take k) = mv at *
      have u1 : IntKind.i64.wrap (eat + mv) = eat + mv := by simp [IntKind.wrap, IntKind.bits, IntKind.signed]; omega
      obtain ⟨vo, hvo⟩ : ∃ v, u7 = v := ⟨_, rfl⟩
      rw [hvo] at hown ⊢
      clear hvo
      go_wp2_with fail
      have SH : Hid (∀ W : World, W.heap[wr.heap.size]? = some (.cells #[.int .i64 eat, .int .i64 edel, .slice A5 ei.length c5] 49 (0, 0)) → (W.cell? ⟨wr.heap.size, 0, none⟩ = some (.int .i64 eat) ∧ W.cell? ⟨wr.heap.size, 1, none⟩ = some (.int .i64 edel) ∧ W.cell? ⟨wr.heap.size, 2, none⟩ = some (.slice A5 ei.length c5) ∧ W.heap[wr.heap.size]? = some (.cells #[.int .i64 eat, .int .i64 edel, .slice A5 ei.length c5] 49 (0, 0)))) := Lib.hid (fun W h => ⟨cell_of_block h 0, cell_of_block h 1, cell_of_block h 2, h⟩)
      have V0 : (wr.alloc (.cells #[.int .i64 eat, .int .i64 edel, .slice A5 ei.length c5] 49)).drew.heap[wr.heap.size]? = some (.cells #[.int .i64 eat, .int .i64 edel, .slice A5 ei.length c5] 49 (0, 0)) := heap_alloc_new wr _
      have HB0 := Lib.hid ((hbl.out.alloc hbl.out.size (.cells #[.int .i64 eat, .int .i64 edel, .slice A5 ei.length c5] 49)).drew)
      have OW0 := Lib.hid (hown.out.below (((Below.refl wr.heap.size wr).alloc (Nat.le_refl _) (.cells #[.int .i64 eat, .int .i64 edel, .slice A5 ei.length c5] 49)).drew))
      have CL := Lib.hid (clone_any A5 c5 w3.heap.size ei (wr.alloc (.cells #[.int .i64 eat, .int .i64 edel, .slice A5 ei.length c5] 49)).drew (R5.out.below HB0.out (Nat.le_refl _)) HB0.out.size (by omega))
      have hbx : wr.heap.size < (wr.alloc (.cells #[.int .i64 eat, .int .i64 edel, .slice A5 ei.length c5] 49)).drew.heap.size := by simp
      have hN0 : w3.heap.size ≤ (wr.alloc (.cells #[.int .i64 eat, .int .i64 edel, .slice A5 ei.length c5] 49)).drew.heap.size := HB0.out.size
      obtain ⟨bx, hbx'⟩ : ∃ b, wr.heap.size = b := ⟨_, rfl⟩
      rw [hbx'] at SH V0 hbx ⊢
      clear hbx' hbl hown z0 z1 z2
      refine wp_region_held_drew (S := fun w' => w'.cell? ⟨bx, 0, none⟩ = some (.int .i64 eat) ∧ w'.cell? ⟨bx, 1, none⟩ = some (.int .i64 edel) ∧ w'.cell? ⟨bx, 2, none⟩ = some (.slice A5 ei.length c5) ∧ w'.heap[bx]? = some (.cells #[.int .i64 eat, .int .i64 edel, .slice A5 ei.length c5] 49 (0, 0))) (by kernel_rfl) (SH.out _ V0) (fun hHeld => ?_)
      obtain ⟨W0, hW0⟩ : ∃ W, (wr.alloc (.cells #[.int .i64 eat, .int .i64 edel, .slice A5 ei.length c5] 49)).drew = W := ⟨_, rfl⟩
      rw [hW0] at hHeld V0 HB0 OW0 CL hbx hN0 ⊢
      clear hW0
      refine tk 0 rfl (by kernel_rfl) hHeld (fun _ _ _ h => h) (v := ?_) ?_ ?_
      rotate_left 1
      · (intro w hSw; (try dsimp only at hSw); (try simp only [List.getElem_toArray, List.getElem_cons_succ, List.getElem_cons_zero]); go_simp) <;> (with_reducible rfl)
      try simp only [List.getElem_toArray, List.getElem_cons_succ, List.getElem_cons_zero, Act.put, List.setIfInBounds_toArray, List.set_cons_zero, List.set_cons_succ]
      refine tk 1 rfl (by kernel_rfl) hHeld (fun _ _ _ h => h) (v := ?_) ?_ ?_
      rotate_left 1
      · (intro w hSw; (try dsimp only at hSw); (try simp only [List.getElem_toArray, List.getElem_cons_succ, List.getElem_cons_zero]); go_simp) <;> (with_reducible rfl)
      try simp only [List.getElem_toArray, List.getElem_cons_succ, List.getElem_cons_zero, Act.put, List.setIfInBounds_toArray, List.set_cons_zero, List.set_cons_succ]
      refine tk 2 rfl (by kernel_rfl) hHeld (fun _ _ _ h => h) (v := ?_) ?_ ?_
      rotate_left 1
      · (intro w hSw; (try dsimp only at hSw); (try simp only [List.getElem_toArray, List.getElem_cons_succ, List.getElem_cons_zero]); go_simp) <;> (with_reducible rfl)
      try simp only [List.getElem_toArray, List.getElem_cons_succ, List.getElem_cons_zero, Act.put, List.setIfInBounds_toArray, List.set_cons_zero, List.set_cons_succ]
      refine tk 3 rfl (by kernel_rfl) hHeld (fun _ _ _ h => h) (v := ?_) ?_ ?_
      rotate_left 1
      · (intro w hSw; (try dsimp only at hSw); (try simp only [List.getElem_toArray, List.getElem_cons_succ, List.getElem_cons_zero]); go_simp) <;> (with_reducible rfl)
      try simp only [List.getElem_toArray, List.getElem_cons_succ, List.getElem_cons_zero, Act.put, List.setIfInBounds_toArray, List.set_cons_zero, List.set_cons_succ]
      refine tk 4 rfl (by kernel_rfl) hHeld (fun _ _ _ h => h) (v := ?_) ?_ ?_
      rotate_left 1
      · (intro w hSw; (try dsimp only at hSw); (try simp only [List.getElem_toArray, List.getElem_cons_succ, List.getElem_cons_zero]); go_simp) <;> (with_reducible rfl)
      try simp only [List.getElem_toArray, List.getElem_cons_succ, List.getElem_cons_zero, Act.put, List.setIfInBounds_toArray, List.set_cons_zero, List.set_cons_succ]
      refine tk 5 rfl (by kernel_rfl) hHeld (fun _ _ _ h => h) (v := ?_) ?_ ?_
      rotate_left 1
      · (intro w hSw; (try dsimp only at hSw); (try simp only [List.getElem_toArray, List.getElem_cons_succ, List.getElem_cons_zero]); go_simp) <;> (with_reducible rfl)
      try simp only [List.getElem_toArray, List.getElem_cons_succ, List.getElem_cons_zero, Act.put, List.setIfInBounds_toArray, List.set_cons_zero, List.set_cons_succ]
      refine tk 6 rfl (by kernel_rfl) hHeld (fun _ _ _ h => h) (v := ?_) ?_ ?_
      rotate_left 1
      · (intro w hSw; (try dsimp only at hSw); (try simp only [List.getElem_toArray, List.getElem_cons_succ, List.getElem_cons_zero]); go_simp) <;> (with_reducible rfl)
      try simp only [List.getElem_toArray, List.getElem_cons_succ, List.getElem_cons_zero, Act.put, List.setIfInBounds_toArray, List.set_cons_zero, List.set_cons_succ]
      refine tk 7 rfl (by kernel_rfl) hHeld (fun _ _ _ h => h) (v := ?_) ?_ ?_
      rotate_left 1
      · (intro w hSw; (try dsimp only at hSw); (try simp only [List.getElem_toArray, List.getElem_cons_succ, List.getElem_cons_zero]); go_simp) <;> (with_reducible rfl)
      try simp only [List.getElem_toArray, List.getElem_cons_succ, List.getElem_cons_zero, Act.put, List.setIfInBounds_toArray, List.set_cons_zero, List.set_cons_succ]
      refine tk 8 rfl (by kernel_rfl) hHeld (fun _ _ _ h => h) (v := ?_) ?_ ?_
      rotate_left 1
      · (intro w hSw; (try dsimp only at hSw); (try simp only [List.getElem_toArray, List.getElem_cons_succ, List.getElem_cons_zero]); go_simp) <;> (with_reducible rfl)
      try simp only [List.getElem_toArray, List.getElem_cons_succ, List.getElem_cons_zero, Act.put, List.setIfInBounds_toArray, List.set_cons_zero, List.set_cons_succ]
      refine tk 9 rfl (by kernel_rfl) hHeld (fun _ _ _ h => h) (v := ?_) ?_ ?_
      rotate_left 1
      · (intro w hSw; (try dsimp only at hSw); (try simp only [List.getElem_toArray, List.getElem_cons_succ, List.getElem_cons_zero]); go_simp) <;> (with_reducible rfl)
      try simp only [List.getElem_toArray, List.getElem_cons_succ, List.getElem_cons_zero, Act.put, List.setIfInBounds_toArray, List.set_cons_zero, List.set_cons_succ]
      refine wpAnyH_ready (rs := [10]) (by kernel_rfl) (by simp) (AllReadyH.cons rfl (fun K hK => ?_) AllReadyH.nil)
      simp only [List.getElem_toArray, List.getElem_cons_succ, List.getElem_cons_zero]
      go_simp
      go_at_call 27
      (with_reducible refine (CL.out).mono ?_)
      rintro e W1 ⟨v6, rfl, own6, b6⟩
      obtain ⟨A6, c6, rfl, _, _⟩ := own_reads_cap own6
      have V1 := (b6.block bx hbx).trans V0
      have HB1 := Lib.hid (HB0.out.trans (b6.mono HB0.out.size))
      have OW1 := Lib.hid (OW0.out.below b6)
      have OG1 := Lib.hid (own_lower own6 hN0)
      have hN1 : w3.heap.size ≤ W1.heap.size := Nat.le_trans hN0 b6.size
      clear own6 b6
      try go_wp2_with fail
      refine hK.out _ _ (SH.out _ V1) (fun hHeld => ?_)
      clear hK K
      try simp only [List.getElem_toArray, List.getElem_cons_succ, List.getElem_cons_zero, Act.put, List.setIfInBounds_toArray, List.set_cons_zero, List.set_cons_succ]
      refine tk 11 rfl (by kernel_rfl) hHeld (fun _ _ _ h => h) (v := ?_) ?_ ?_
      rotate_left 1
      · (intro w hSw; (try dsimp only at hSw); (try simp only [List.getElem_toArray, List.getElem_cons_succ, List.getElem_cons_zero]); go_simp) <;> (with_reducible rfl)
      try simp only [List.getElem_toArray, List.getElem_cons_succ, List.getElem_cons_zero, Act.put, List.setIfInBounds_toArray, List.set_cons_zero, List.set_cons_succ]
      refine wpAnyH_ready (rs := [12]) (by kernel_rfl) (by simp) (AllReadyH.cons rfl (fun K hK => ?_) AllReadyH.nil)
      simp only [List.getElem_toArray, List.getElem_cons_succ, List.getElem_cons_zero]
      go_simp
      have V2 := heap_old_ W1 (.cells #[.int .i64 3, .int .i64 row, .int .i64 (eat + mv), .int .i64 edel, .int .i64 0, .slice A6 ei.length c6] 29) V1
      have B2 : Below W1.heap.size W1 (W1.alloc (.cells #[.int .i64 3, .int .i64 row, .int .i64 (eat + mv), .int .i64 edel, .int .i64 0, .slice A6 ei.length c6] 29)) := (Below.refl _ _).alloc (Nat.le_refl _) _
      have HB2 := Lib.hid (HB1.out.trans (B2.mono HB1.out.size))
      have OW2 := Lib.hid (OW1.out.below B2)
      have OG2 := Lib.hid (own_under OG1.out B2)
      have RD := Lib.hid (reads_block_ W1 #[.int .i64 3, .int .i64 row, .int .i64 (eat + mv), .int .i64 edel, .int .i64 0, .slice A6 ei.length c6].toList 29 6 rfl)
      have hN2 := Nat.le_trans hN1 B2.size
      refine hK.out _ _ (SH.out _ V2) (fun hHeld => ?_)
      clear hK K
      try simp only [List.getElem_toArray, List.getElem_cons_succ, List.getElem_cons_zero, Act.put, List.setIfInBounds_toArray, List.set_cons_zero, List.set_cons_succ]
      obtain ⟨gz, hgz⟩ : ∃ g, W1.heap.size = g := ⟨_, rfl⟩
      obtain ⟨W2, hW2⟩ : ∃ W, W1.alloc (.cells #[.int .i64 3, .int .i64 row, .int .i64 (eat + mv), .int .i64 edel, .int .i64 0, .slice A6 ei.length c6] 29) = W := ⟨_, rfl⟩
      rw [hW2] at V2 HB2 OW2 OG2 RD hN2 hHeld ⊢
      rw [hgz] at RD ⊢
      clear hW2 hgz B2
      refine wpAnyH_ready (rs := [13]) (by kernel_rfl) (by simp) (AllReadyH.cons rfl (fun K hK => ?_) AllReadyH.nil)
      refine step_append_any _ rfl (.tmp 24) (.tmp 36) 26 rfl w3.heap.size 29 iC _ 6 64 Try.underlying26 hiC hC0 hC1 hC2 rfl (by decide) vo _ _ rfl OW2.out.row _ _ 1 1 [.int .i64 3, .int .i64 row, .int .i64 (eat + mv), .int .i64 edel, .int .i64 0, .slice A6 ei.length c6] rfl RD.out (by simp [Value.oneCell']) (by simp only [maxLen]; omega) (by omega) hN2 ?_
      intro v7 W3 ho hg7 hn7
      have V3 := heap_kept OW2.out.row hg7 V2 (by decide)
      have OW3 := Lib.hid (OW2.out.push (x := ⟨⟨3, row, eat + mv, edel, 0, ei⟩, .slice A6 ei.length c6⟩) OG2.out ho hg7)
      have HB3 := Lib.hid (HB2.out.grown hg7 HB2.out.size (fun g e => (OW2.out.row.lt g e).1))
      refine hK.out _ _ (SH.out _ V3) (fun hHeld => ?_)
      clear hK K
      try simp only [List.getElem_toArray, List.getElem_cons_succ, List.getElem_cons_zero, Act.put, List.setIfInBounds_toArray, List.set_cons_zero, List.set_cons_succ]
      refine tk 14 rfl (by kernel_rfl) hHeld (fun _ _ _ h => h) (v := ?_) ?_ ?_
      rotate_left 1
      · (intro w hSw; (try dsimp only at hSw); (try simp only [List.getElem_toArray, List.getElem_cons_succ, List.getElem_cons_zero]); go_simp) <;> (with_reducible rfl)
      try simp only [List.getElem_toArray, List.getElem_cons_succ, List.getElem_cons_zero, Act.put, List.setIfInBounds_toArray, List.set_cons_zero, List.set_cons_succ]
      refine wpAnyH_done (by kernel_rfl) ?_ _
      clear SH CL OW0 HB0 OW1 HB1 OG1 OW2 HB2 OG2 RD V0 V1 V2 hbx hN0 hN1 hN2 hg7 ho hn7
      have W0' := hHeld.1
      have W1' := hHeld.2.1
      have W2' := hHeld.2.2.1
      clear hHeld V3
      have u2 : IntKind.i64.wrap ((ei.length : Int) - edel) = (ei.length : Int) - edel := by simp [IntKind.wrap, IntKind.bits, IntKind.signed]; omega
      go_wp2_with fail
      refine ⟨⟨k + 1, xs ++ [⟨⟨3, row, eat + mv, edel, 0, ei⟩, .slice A6 ei.length c6⟩], by omega, by go_num, ?_, by rw [List.length_append, HXL.out]; rfl, Lib.hid ?_, OW3, HB3⟩, by simp [intOf]; omega⟩
      · rw [TK.out, MV.out]
      · rw [TK.out, OF.out, List.map_append, List.map_append, hxs.out]
        simp only [List.map_cons, List.map_nil]
        rw [HCX.out]
    · obtain rfl : k = es.length := by omega
      have q2 : ((es.length : Int) < (es.length : Int)) = False := eq_false (by omega)
      have hall : (E.script X Y).take es.length = E.script X Y := by rw [HEL.out]; exact List.take_length
      have HXS : Hid (xs.map (·.c) = (R.ofEd 0 (E.script X Y)).map (R.Cx.of row)) := Lib.hid (by rw [hxs.out, hall])
      have RP := Lib.hid (replace_any A3 A4 c3 c4 w3.heap.size row X Y wr (R33.out.below hbl.out (Nat.le_refl _)) (R43.out.below hbl.out (Nat.le_refl _)) hbl.out.size (by omega) (by omega) hc3 hc4)
      rw [TX.out, TY.out] at RP
      have hownr := hown.out
      obtain ⟨Ao, co, rfl, _, _⟩ := hownr.chs
      rw [HXL.out]
      have hgl : ∀ x ∈ xs, x.c.gl.length ≤ 100000 := R.gl_bd HXS.out LOW.out.2
      have HGL := Lib.hid hgl
      have HOW := Lib.hid hownr
      have CO := Lib.hid (R.costX_of HXS.out)
      have hol : (R.ofEd 0 (E.script X Y)).length = es.length := by rw [R.ofEd_length, ← HEL.out]
      clear hall hxs hown hownr hgl R33 R43 TX TY RD EDS LOW
      go_wp2_with fail
      refine RP.out.mono ?_
      rintro e w4 ⟨v4, rfl, own4, b4⟩
      obtain ⟨A8, c8, rfl, _, _⟩ := own_reads_cap own4
      have hs4 := Nat.le_trans hbl.out.size b4.size
      have ONE := Lib.hid (R.own_one (base := w3.heap.size) w4 ⟨⟨3, row, 0, (X.length : Nat), 0, Y⟩, .slice A8 Y.length c8⟩ hs4 (own_lower own4 hbl.out.size))
      have B5 : Below w4.heap.size w4 (w4.alloc (.cells (R.Cs.cells ⟨⟨3, row, 0, (X.length : Nat), 0, Y⟩, .slice A8 Y.length c8⟩).toArray 29)) := (Below.refl _ _).alloc (Nat.le_refl _) _
      have OUT := Lib.hid ((HOW.out.below b4).below B5)
      have HB5 := Lib.hid (HB3.out.trans ((hbl.out.trans ((b4.mono hbl.out.size).trans (B5.mono hs4))).mono hNs))
      clear RP own4 b4 B5 HOW
      simp only [R.Cs.cells] at ONE OUT HB5 ⊢
      obtain ⟨Aq, cq, hq, chs1, hcq⟩ := ONE.out.chs
      obtain ⟨Ar, cr, hr, chs2, hcr⟩ := OUT.out.chs
      injection hq with hq1 hq2 hq3
      injection hr with hr1 hr2 hr3
      subst hq1 hr1
      have K1 := Lib.hid (cost_any _ 1 _ _ _ chs1 (Nat.le_refl _) (by simp) (by intro x hx; simp only [List.mem_singleton] at hx; subst hx; simp only; omega))
      have K2 := Lib.hid (fun W (h : Below (w4.alloc (.cells #[.int .i64 3, .int .i64 row, .int .i64 0, .int .i64 (X.length : Nat), .int .i64 0, .slice A8 Y.length c8] 29)).heap.size (w4.alloc (.cells #[.int .i64 3, .int .i64 row, .int .i64 0, .int .i64 (X.length : Nat), .int .i64 0, .slice A8 Y.length c8] 29)) W) => cost_any _ co _ xs W (chs2.below h (Nat.le_refl _)) h.size (by omega) HGL.out)
      clear chs1 chs2 hq2 hq3 hr2 hr3 hcq hcr
      rw [HXL.out] at OUT K2
      rcases Nat.eq_zero_or_pos es.length with h0 | h0
      · have q5 : decide (0 < es.length) = false := decide_eq_false (by omega)
        have hnil : R.ofEd 0 (E.script X Y) = [] := List.eq_nil_of_length_eq_zero (by omega)
        have FIN : Hid (xs.map (·.c) = (R.splices R.bl a b).map (R.Cx.of row)) := Lib.hid (by rw [SP.out, if_neg (by rw [hnil]; simp)]; exact HXS.out)
        clear hnil K1 K2 h0 hol
        go_wp2_with fail
        go_ret
        exact ⟨_, xs, rfl, OUT.out.lower (base' := w.heap.size) (by rw [HN.out]; exact hNs), FIN.out, by rw [HN.out]; exact HB5.out⟩
      · have q5 : decide (0 < es.length) = true := decide_eq_true h0
        have hne : R.ofEd 0 (E.script X Y) ≠ [] := fun e => by rw [e] at hol; simp at hol; omega
        have C1 : Hid (R.costX [⟨⟨3, row, 0, (X.length : Nat), 0, Y⟩, .slice A8 Y.length c8⟩] = R.cost [(⟨0, (X.length : Nat), Y⟩ : R.Ch R.G)]) := Lib.hid (by simp [R.costX, R.priceX, R.cost, R.price])
        rw [C1.out] at K1
        rw [CO.out] at K2
        obtain ⟨p, hp⟩ : ∃ p, R.cost [(⟨0, (X.length : Nat), Y⟩ : R.Ch R.G)] = p := ⟨_, rfl⟩
        obtain ⟨q, hq⟩ : ∃ q, R.cost (R.ofEd 0 (E.script X Y)) = q := ⟨_, rfl⟩
        rw [hp] at K1
        rw [hq] at K2
        rw [hp, hq] at SP
        clear C1 hp hq
        by_cases hpq : p < q
        · have FIN : Hid ([(⟨⟨3, row, 0, (X.length : Nat), 0, Y⟩, .slice A8 Y.length c8⟩ : R.Cs)].map (·.c) = (R.splices R.bl a b).map (R.Cx.of row)) := Lib.hid (by rw [SP.out, if_pos ⟨hne, hpq⟩]; rfl)
          clear hne
          go_wp2_with fail
          refine K1.out.mono ?_
          rintro e w6 ⟨rfl, b6⟩
          have K3 := Lib.hid (K2.out w6 b6)
          go_wp2_with fail
          refine K3.out.mono ?_
          rintro e w7 ⟨rfl, b7⟩
          go_wp2_with fail
          go_ret
          have hb := b6.trans (b7.mono b6.size)
          exact ⟨_, _, rfl, (ONE.out.below hb).lower (base' := w.heap.size) (by rw [HN.out]; exact hNs), FIN.out, by rw [HN.out]; exact HB5.out.trans (hb.mono (Nat.le_trans hNs (Nat.le_trans hs4 (by simp))))⟩
        · have FIN : Hid (xs.map (·.c) = (R.splices R.bl a b).map (R.Cx.of row)) := Lib.hid (by rw [SP.out, if_neg (fun h => hpq h.2)]; exact HXS.out)
          clear hne
          go_wp2_with fail
          refine K1.out.mono ?_
          rintro e w6 ⟨rfl, b6⟩
          have K3 := Lib.hid (K2.out w6 b6)
          go_wp2_with fail
          refine K3.out.mono ?_
          rintro e w7 ⟨rfl, b7⟩
          go_wp2_with fail
          go_ret
          have hb := b6.trans (b7.mono b6.size)
          exact ⟨_, xs, rfl, (OUT.out.below hb).lower (base' := w.heap.size) (by rw [HN.out]; exact hNs), FIN.out, by rw [HN.out]; exact HB5.out.trans (hb.mono (Nat.le_trans hNs (Nat.le_trans hs4 (by simp))))⟩
end Go.Proofs.Yteakiielcmgkeaa
