/-
  The walks of layer 18: the reference's Find. By an AI agent.
-/
import Derived.Test.YthohninbelhddaaRg3
import Derived.Test.YthohninbelhddaaPRef
namespace Go.Proofs.Ythohninbelhddaa
open Go.RowKit

attribute [local go_sem] guard44 guard47

def C.chc : Option V.Sc → Array Value
  | none => #[.int .i64 0, .int .i64 0, .int .i64 0, .int .i64 0, .int .i64 0, .slice none 0 0]
  | some m => #[.int .i64 2, .int .i64 m.t, .int .i64 0, .int .i64 m.k, .int .i64 m.e, .slice none 0 0]
theorem C.chc6 (o : Option V.Sc) : ∃ c0 c1 c2 c3 c4 c5, C.chc o = #[c0, c1, c2, c3, c4, c5] := by cases o <;> exact ⟨_, _, _, _, _, _, rfl⟩
/-- What holds in the reference's loops. -/
structure C.RFI (w : World) (ca cb : Array Value) (o : Option V.Sc) (wr : World) : Prop where
  a : wr.heap[w.heap.size]? = some (.cells ca 24 (0, 0))
  b : wr.heap[w.heap.size + 1]? = some (.cells cb 24 (0, 0))
  res : wr.heap[w.heap.size + 1 + 1]? = some (.cells #[.int .i64 0, .int .i64 0, .int .i64 0, .int .i64 0, .int .i64 0, .slice none 0 0] 29 (0, 0))
  best : wr.heap[w.heap.size + 1 + 1 + 1]? = some (.cells (C.chc o) 29 (0, 0))
  bel : Below w.heap.size w wr
theorem C.RFI.below {w wr w' : World} {ca cb : Array Value} {o : Option V.Sc} (h : C.RFI w ca cb o wr) (hb : Below wr.heap.size wr w') : C.RFI w ca cb o w' :=
  ⟨(hb.block _ (Array.getElem?_eq_some_iff.1 h.a).1).trans h.a, (hb.block _ (Array.getElem?_eq_some_iff.1 h.b).1).trans h.b, (hb.block _ (Array.getElem?_eq_some_iff.1 h.res).1).trans h.res, (hb.block _ (Array.getElem?_eq_some_iff.1 h.best).1).trans h.best, h.bel.trans (hb.mono h.bel.size)⟩
theorem C.RFI.put {w wr : World} {ca cb : Array Value} {o : Option V.Sc} (h : C.RFI w ca cb o wr) (t e k : Int) :
    C.RFI w ca cb (some ⟨t, e, k⟩) ((((((wr.setCell ⟨w.heap.size + 1 + 1 + 1, 0, none⟩ (.int .i64 2)).setCell ⟨w.heap.size + 1 + 1 + 1, 1, none⟩ (.int .i64 t)).setCell ⟨w.heap.size + 1 + 1 + 1, 2, none⟩ (.int .i64 0)).setCell ⟨w.heap.size + 1 + 1 + 1, 3, none⟩ (.int .i64 k)).setCell ⟨w.heap.size + 1 + 1 + 1, 4, none⟩ (.int .i64 e)).setCell ⟨w.heap.size + 1 + 1 + 1, 5, none⟩ (.slice none 0 0)) := by
  obtain ⟨c0, c1, c2, c3, c4, c5, hc⟩ := C.chc6 o
  have hbest := h.best
  rw [hc] at hbest
  exact ⟨(C.set6o (by omega) _ _ _ _ _ _).trans h.a, (C.set6o (by omega) _ _ _ _ _ _).trans h.b, (C.set6o (by omega) _ _ _ _ _ _).trans h.res, C.set6 hbest _ _ _ _ _ _, C.bel6 h.bel (by omega) _ _ _ _ _ _⟩
theorem C.RFI.new (w : World) (ca cb : Array Value) : C.RFI w ca cb none ((((w.alloc (.cells ca 24)).alloc (.cells cb 24)).alloc (.cells #[.int .i64 0, .int .i64 0, .int .i64 0, .int .i64 0, .int .i64 0, .slice none 0 0] 29)).alloc (.cells #[.int .i64 0, .int .i64 0, .int .i64 0, .int .i64 0, .int .i64 0, .slice none 0 0] 29)) := by
  have h1 := C.heap_new (w.alloc (.cells ca 24)) (.cells cb 24)
  have h2 := C.heap_new ((w.alloc (.cells ca 24)).alloc (.cells cb 24)) (.cells #[.int .i64 0, .int .i64 0, .int .i64 0, .int .i64 0, .int .i64 0, .slice none 0 0] 29)
  have h3 := C.heap_new (((w.alloc (.cells ca 24)).alloc (.cells cb 24)).alloc (.cells #[.int .i64 0, .int .i64 0, .int .i64 0, .int .i64 0, .int .i64 0, .slice none 0 0] 29)) (.cells #[.int .i64 0, .int .i64 0, .int .i64 0, .int .i64 0, .int .i64 0, .slice none 0 0] 29)
  simp only [World.size_alloc] at h1 h2 h3
  refine ⟨?_, ?_, ?_, h3, ((((Below.refl _ w).alloc (Nat.le_refl _) _).alloc (by simp) _).alloc (by simp <;> omega) _).alloc (by simp <;> omega) _⟩
  · exact (Below.heap_alloc _ _ _ (by simp <;> omega)).trans ((Below.heap_alloc _ _ _ (by simp <;> omega)).trans ((Below.heap_alloc _ _ _ (by simp)).trans (C.heap_new w _)))
  · exact (Below.heap_alloc _ _ _ (by simp <;> omega)).trans ((Below.heap_alloc _ _ _ (by simp <;> omega)).trans h1)
  · exact (Below.heap_alloc _ _ _ (by simp <;> omega)).trans h2

set_option maxRecDepth 100000 in
set_option maxHeartbeats 16000000 in
theorem reffind_any (B : Nat) (a b : C.VR) (w : World) (ha : C.Rv w B a.A a.rs) (hb : C.Rv w B b.A b.rs) (hB : B ≤ w.heap.size) (hal : a.rs.length ≤ 1000) (h40 : ∀ r ∈ a.rs, r.2.2.length ≤ 1000) :
    Calls Try.prog 14 #[a.val, b.val] w fun e' w' => (∃ o : Option V.Sc, e' = .returned (.tuple #[C.chv o, .bool o.isSome]) ∧ (C.mt a.ht b.ht a.rs.length b.rs.length = false → o = none) ∧ (C.mt a.ht b.ht a.rs.length b.rs.length = true → V.Best (fun c => V.gain a.gl b.gl c.t c.e c.k) (V.All a.rs.length) o)) ∧ Below w.heap.size w w' := by
  have MT := Lib.hid (fun w' => refmatch_any a b w')
  have GN : Hid (C.mt a.ht b.ht a.rs.length b.rs.length = true → ∀ w', Below w.heap.size w w' → ∀ t e k, Calls Try.prog 20 #[a.val, b.val, .int .i64 t, .int .i64 e, .int .i64 k] w' fun e' w'' => e' = .returned (.int .i64 (V.gz a.rs.length (fun c => V.gain a.gl b.gl c.t c.e c.k) ⟨t, e, k⟩)) ∧ Below w'.heap.size w' w'') := Lib.hid (fun hm w' hbl t e k => by
    have he : C.gn a b t e k = V.gz a.rs.length (fun c => V.gain a.gl b.gl c.t c.e c.k) ⟨t, e, k⟩ := by
      by_cases h : V.All a.rs.length ⟨t, e, k⟩
      · exact (if_pos ⟨hm, h⟩).trans (if_pos h).symm
      · exact (if_neg (fun g => h g.2)).trans (if_neg h).symm
    rw [← he]
    exact refGain_any B a b t e k w' (ha.below hbl hB) (hb.below hbl hB) (Nat.le_trans hB hbl.size) hal h40)
  clear ha hb h40
  generalize (fun c : V.Sc => V.gain a.gl b.gl c.t c.e c.k) = g at *
  obtain ⟨aw, ah, aA, ac, ars, ar, aco, av⟩ := a
  obtain ⟨bw, bh, bA, bc, brs, br, bco, bv⟩ := b
  dsimp only [C.VR.val] at *
  obtain ⟨W, hW⟩ : ∃ W, (((w.alloc (.cells #[.int .i64 aw, .int .i64 ah, .slice aA ars.length ac, .int .i64 ar, .int .i64 aco, .bool av] 24)).alloc (.cells #[.int .i64 bw, .int .i64 bh, .slice bA brs.length bc, .int .i64 br, .int .i64 bco, .bool bv] 24)).alloc (.cells #[.int .i64 0, .int .i64 0, .int .i64 0, .int .i64 0, .int .i64 0, .slice none 0 0] 29)).alloc (.cells #[.int .i64 0, .int .i64 0, .int .i64 0, .int .i64 0, .int .i64 0, .slice none 0 0] 29) = W := ⟨_, rfl⟩
  have V0 : C.RFI w #[.int .i64 aw, .int .i64 ah, .slice aA ars.length ac, .int .i64 ar, .int .i64 aco, .bool av] #[.int .i64 bw, .int .i64 bh, .slice bA brs.length bc, .int .i64 br, .int .i64 bco, .bool bv] none W := by rw [← hW]; exact C.RFI.new w _ _
  have xa0 := C.blk_cell V0.a 0
  have xa1 := C.blk_cell V0.a 1
  have xa2 := C.blk_cell V0.a 2
  have xa3 := C.blk_cell V0.a 3
  have xa4 := C.blk_cell V0.a 4
  have xa5 := C.blk_cell V0.a 5
  simp only [List.getElem?_toArray, List.getElem?_cons_zero, List.getElem?_cons_succ] at xa0 xa1 xa2 xa3 xa4 xa5
  have xb0 := C.blk_cell V0.b 0
  have xb1 := C.blk_cell V0.b 1
  have xb2 := C.blk_cell V0.b 2
  have xb3 := C.blk_cell V0.b 3
  have xb4 := C.blk_cell V0.b 4
  have xb5 := C.blk_cell V0.b 5
  simp only [List.getElem?_toArray, List.getElem?_cons_zero, List.getElem?_cons_succ] at xb0 xb1 xb2 xb3 xb4 xb5
  have V0' := Lib.hid V0
  have HW := Lib.hid hW
  clear V0 hW
  go_enter Try.func14, Try.ntmps14
  go_wp2_with fail
  rw [HW.out]
  refine (MT.out _).mono ?_
  rintro e' w1 ⟨rfl, b1'⟩
  have V1 := Lib.hid (V0'.out.below b1')
  clear xa0 xa1 xa2 xa3 xa4 xa5 xb0 xb1 xb2 xb3 xb4 xb5 HW b1' V0'
  have xa0 := C.blk_cell V1.out.a 0
  have xa1 := C.blk_cell V1.out.a 1
  have xa2 := C.blk_cell V1.out.a 2
  have xa3 := C.blk_cell V1.out.a 3
  have xa4 := C.blk_cell V1.out.a 4
  have xa5 := C.blk_cell V1.out.a 5
  simp only [List.getElem?_toArray, List.getElem?_cons_zero, List.getElem?_cons_succ] at xa0 xa1 xa2 xa3 xa4 xa5
  have xb0 := C.blk_cell V1.out.b 0
  have xb1 := C.blk_cell V1.out.b 1
  have xb2 := C.blk_cell V1.out.b 2
  have xb3 := C.blk_cell V1.out.b 3
  have xb4 := C.blk_cell V1.out.b 4
  have xb5 := C.blk_cell V1.out.b 5
  simp only [List.getElem?_toArray, List.getElem?_cons_zero, List.getElem?_cons_succ] at xb0 xb1 xb2 xb3 xb4 xb5
  cases hm : C.mt ah bh ars.length brs.length
  · have BB := V1.out.best
    have RR := V1.out.res
    dsimp only [C.chc] at BB
    have m0 := C.blk_cell BB 0
    have m1 := C.blk_cell BB 1
    have m2 := C.blk_cell BB 2
    have m3 := C.blk_cell BB 3
    have m4 := C.blk_cell BB 4
    have m5 := C.blk_cell BB 5
    simp only [List.getElem?_toArray, List.getElem?_cons_zero, List.getElem?_cons_succ] at m0 m1 m2 m3 m4 m5
    have r0 := C.blk_cell RR 0
    have r1 := C.blk_cell RR 1
    have r2 := C.blk_cell RR 2
    have r3 := C.blk_cell RR 3
    have r4 := C.blk_cell RR 4
    have r5 := C.blk_cell RR 5
    have s0 := C.blk_frozen RR 0
    have s1 := C.blk_frozen RR 1
    have s2 := C.blk_frozen RR 2
    have s3 := C.blk_frozen RR 3
    have s4 := C.blk_frozen RR 4
    have s5 := C.blk_frozen RR 5
    simp only [List.getElem?_toArray, List.getElem?_cons_zero, List.getElem?_cons_succ] at r0 r1 r2 r3 r4 r5
    have h6 := C.set6 RR (.int .i64 0) (.int .i64 0) (.int .i64 0) (.int .i64 0) (.int .i64 0) (.slice none 0 0)
    have hb6 := C.bel6 (R := w.heap.size + 1 + 1) V1.out.bel (by omega) (.int .i64 0) (.int .i64 0) (.int .i64 0) (.int .i64 0) (.int .i64 0) (.slice none 0 0)
    have z0 := C.blk_cell h6 0
    have z1 := C.blk_cell h6 1
    have z2 := C.blk_cell h6 2
    have z3 := C.blk_cell h6 3
    have z4 := C.blk_cell h6 4
    have z5 := C.blk_cell h6 5
    simp only [List.getElem?_toArray, List.getElem?_cons_zero, List.getElem?_cons_succ] at z0 z1 z2 z3 z4 z5
    have HB6 := Lib.hid hb6
    clear h6 hb6 BB RR
    go_wp2_with fail
    refine bodyPost_ret (v := .tuple #[C.chv none, .bool false]) (by simp [results, Try.results14, go_sem, C.chv, *]) rfl ?_
    exact ⟨⟨none, rfl, fun _ => rfl, fun h => absurd (hm.symm.trans h) (by decide)⟩, HB6.out⟩
  · have GN := Lib.hid (GN.out hm)
    have hm' := Lib.hid hm
    have hmm := of_decide_eq_true hm
    obtain ⟨h1, h2, h3⟩ := hmm
    subst h2
    clear hm h1 h3 MT
    have BO : Hid (V.Best g (V.PB ars.length 1 0 ars.length) none) := Lib.hid (V.best_congr g (V.pb_start ars.length) (V.best_nothing g))
    go_wp2
    clear xa0 xa1 xa2 xa3 xa4 xa5 xb0 xb1 xb2 xb3 xb4 xb5
    go_loopw [7, 8] (fun v7 v8 wr => ∃ (s : Int) (o : Option V.Sc), v7 = .int .i64 (V.bm g o) ∧ v8 = .int .i64 s ∧ 1 ≤ s ∧ s ≤ ars.length + 1 ∧ Hid (V.Best g (V.PB ars.length s 0 ars.length) o) ∧ Hid (C.RFI w #[.int .i64 aw, .int .i64 ars.length, .slice aA ars.length ac, .int .i64 ar, .int .i64 aco, .bool av] #[.int .i64 bw, .int .i64 bh, .slice bA brs.length bc, .int .i64 br, .int .i64 bco, .bool bv] o wr)) (fun _ v8 _ => (ars.length + 2 - intOf v8).toNat)
    case atStart => exact ⟨1, none, rfl, rfl, by omega, by omega, BO, V1⟩
    case round =>
      clear BO V1
      obtain ⟨s, o, rfl, rfl, hs1, hs2, hbo, hri⟩ := hrel
      have FAC := hri.out.a
      have xa1 := C.blk_cell FAC 1
      simp only [List.getElem?_toArray, List.getElem?_cons_zero, List.getElem?_cons_succ] at xa1
      clear FAC
      by_cases hsn : s < ars.length
      · have us : IntKind.i64.wrap (s + 1) = s + 1 := by simp [IntKind.wrap, IntKind.bits, IntKind.signed]; omega
        go_wp2
        go_loopw [7, 9] (fun v7 v9 wr => ∃ (q : Nat) (sg : Int) (o : Option V.Sc), v7 = .int .i64 (V.bm g o) ∧ v9 = .int .i64 sg ∧ Hid (q = 0 ∧ sg = 1 ∧ V.Best g (V.PB ars.length s 0 ars.length) o ∨ q = 1 ∧ sg = -1 ∧ V.Best g (V.PB ars.length (-s) 0 ars.length) o ∨ q = 2 ∧ sg = -3 ∧ V.Best g (V.PB ars.length (s + 1) 0 ars.length) o) ∧ Hid (C.RFI w #[.int .i64 aw, .int .i64 ars.length, .slice aA ars.length ac, .int .i64 ar, .int .i64 aco, .bool av] #[.int .i64 bw, .int .i64 bh, .slice bA brs.length bc, .int .i64 br, .int .i64 bco, .bool bv] o wr)) (fun _ v9 _ => (intOf v9 + 3).toNat)
        case atStart => exact ⟨0, 1, o, rfl, rfl, Lib.hid (.inl ⟨rfl, rfl, hbo.out⟩), hri⟩
        case round =>
          clear hbo hri xa1
          obtain ⟨q, sg, o, rfl, rfl, hsg, hri⟩ := hrel
          have FAC := hri.out.a
          have xa1 := C.blk_cell FAC 1
          simp only [List.getElem?_toArray, List.getElem?_cons_zero, List.getElem?_cons_succ] at xa1
          clear FAC
          by_cases hq : q = 2
          · have hend : Hid (V.Best g (V.PB ars.length (s + 1) 0 ars.length) o) := Lib.hid (by rcases hsg.out with h | h | h; omega; omega; exact h.2.2)
            have h3 : sg = -3 := by rcases hsg.out with h | h | h <;> omega
            subst h3
            clear hsg
            go_wp2
            go_round
            case rel => exact ⟨s + 1, o, rfl, rfl, by omega, by omega, hend, hri⟩
            case measure => simp [intOf] <;> omega
          · obtain ⟨k, hk⟩ : ∃ k, sg * s = k := ⟨_, rfl⟩
            have hsg1 : -1 ≤ sg ∧ sg ≤ 1 := by rcases hsg.out with h | h | h <;> omega
            have hks : k = s ∧ sg = 1 ∨ k = -s ∧ sg = -1 := by
              rcases hsg.out with h | h | h
              · left; obtain ⟨_, rfl, _⟩ := h; omega
              · right; obtain ⟨_, rfl, _⟩ := h; omega
              · omega
            have hbk : Hid (V.Best g (V.PB ars.length k 0 ars.length) o) := Lib.hid (by
              rcases hsg.out with ⟨_, h1, h2⟩ | ⟨_, h1, h2⟩ | h
              · rwa [show k = s by omega]
              · rwa [show k = -s by omega]
              · omega)
            have hnx : Hid (∀ o', V.Best g (V.PB ars.length k ars.length ars.length) o' → (q + 1 = 0 ∧ sg - 2 = 1 ∧ V.Best g (V.PB ars.length s 0 ars.length) o' ∨ q + 1 = 1 ∧ sg - 2 = -1 ∧ V.Best g (V.PB ars.length (-s) 0 ars.length) o' ∨ q + 1 = 2 ∧ sg - 2 = -3 ∧ V.Best g (V.PB ars.length (s + 1) 0 ars.length) o')) := Lib.hid (fun o' h => by
              rcases hsg.out with ⟨h0, h1, h2⟩ | ⟨h0, h1, h2⟩ | h'
              · right; left
                rw [show k = s by omega] at h
                exact ⟨by omega, by omega, V.best_congr g (V.pb_sign ars.length s (by omega)) h⟩
              · right; right
                rw [show k = -s by omega] at h
                exact ⟨by omega, by omega, V.best_congr g (V.pb_size ars.length s (by omega)) h⟩
              · omega)
            have um : IntKind.i64.wrap (sg * s) = k := by rw [hk]; simp [IntKind.wrap, IntKind.bits, IntKind.signed]; omega
            have ug : IntKind.i64.wrap (sg - 2) = sg - 2 := by simp [IntKind.wrap, IntKind.bits, IntKind.signed]; omega
            have hsg2 : -1 ≤ sg := hsg1.1
            have hsg3 : sg ≤ 1 := hsg1.2
            clear hsg hks hsg1 hk
            go_wp2
            go_loopw [7, 10] (fun v7 v10 wr => ∃ (t : Int) (o : Option V.Sc), v7 = .int .i64 (V.bm g o) ∧ v10 = .int .i64 t ∧ 0 ≤ t ∧ t ≤ ars.length ∧ Hid (V.Best g (V.PB ars.length k t ars.length) o) ∧ Hid (C.RFI w #[.int .i64 aw, .int .i64 ars.length, .slice aA ars.length ac, .int .i64 ar, .int .i64 aco, .bool av] #[.int .i64 bw, .int .i64 bh, .slice bA brs.length bc, .int .i64 br, .int .i64 bco, .bool bv] o wr)) (fun _ v10 _ => (ars.length + 1 - intOf v10).toNat)
            case atStart => exact ⟨0, o, rfl, rfl, by omega, by omega, hbk, hri⟩
            case round =>
              clear hbk hri xa1
              obtain ⟨t, o, rfl, rfl, ht1, ht2, hbt, hri⟩ := hrel
              have FAC := hri.out.a
              have xa1 := C.blk_cell FAC 1
              simp only [List.getElem?_toArray, List.getElem?_cons_zero, List.getElem?_cons_succ] at xa1
              clear FAC
              by_cases htn : t < ars.length
              · have ut : IntKind.i64.wrap (t + 1) = t + 1 := by simp [IntKind.wrap, IntKind.bits, IntKind.signed]; omega
                go_wp2
                go_loopw [7, 11] (fun v7 v11 wr => ∃ (e : Int) (o : Option V.Sc), v7 = .int .i64 (V.bm g o) ∧ v11 = .int .i64 e ∧ t ≤ e ∧ e ≤ ars.length ∧ Hid (V.Best g (V.PB ars.length k t e) o) ∧ Hid (C.RFI w #[.int .i64 aw, .int .i64 ars.length, .slice aA ars.length ac, .int .i64 ar, .int .i64 aco, .bool av] #[.int .i64 bw, .int .i64 bh, .slice bA brs.length bc, .int .i64 br, .int .i64 bco, .bool bv] o wr)) (fun _ v11 _ => (intOf v11 - t).toNat)
                case atStart => exact ⟨ars.length, o, rfl, rfl, by omega, by omega, hbt, hri⟩
                case round =>
                  clear hbt hri xa1
                  obtain ⟨e, o, rfl, rfl, he1, he2, hbe, hri⟩ := hrel
                  by_cases het : t < e
                  · have ue : IntKind.i64.wrap (e - 1) = e - 1 := by simp [IntKind.wrap, IntKind.bits, IntKind.signed]; omega
                    have bnd := V.bm_pos hbe.out
                    have xa0 := C.blk_cell hri.out.a 0
                    have xa1 := C.blk_cell hri.out.a 1
                    have xa2 := C.blk_cell hri.out.a 2
                    have xa3 := C.blk_cell hri.out.a 3
                    have xa4 := C.blk_cell hri.out.a 4
                    have xa5 := C.blk_cell hri.out.a 5
                    simp only [List.getElem?_toArray, List.getElem?_cons_zero, List.getElem?_cons_succ] at xa0 xa1 xa2 xa3 xa4 xa5
                    have xb0 := C.blk_cell hri.out.b 0
                    have xb1 := C.blk_cell hri.out.b 1
                    have xb2 := C.blk_cell hri.out.b 2
                    have xb3 := C.blk_cell hri.out.b 3
                    have xb4 := C.blk_cell hri.out.b 4
                    have xb5 := C.blk_cell hri.out.b 5
                    simp only [List.getElem?_toArray, List.getElem?_cons_zero, List.getElem?_cons_succ] at xb0 xb1 xb2 xb3 xb4 xb5
                    go_wp2_with fail
                    refine (GN.out wr hri.out.bel t e k).mono ?_
                    rintro e' w2 ⟨rfl, b2⟩
                    have ri2 := Lib.hid (hri.out.below b2)
                    clear xa0 xa1 xa2 xa3 xa4 xa5 xb0 xb1 xb2 xb3 xb4 xb5 hri b2
                    obtain ⟨c0, c1, c2, c3, c4, c5, hc⟩ := C.chc6 o
                    have BB := ri2.out.best
                    rw [hc] at BB
                    have m0 := C.blk_cell BB 0
                    have m1 := C.blk_cell BB 1
                    have m2 := C.blk_cell BB 2
                    have m3 := C.blk_cell BB 3
                    have m4 := C.blk_cell BB 4
                    have m5 := C.blk_cell BB 5
                    have f0 := C.blk_frozen BB 0
                    have f1 := C.blk_frozen BB 1
                    have f2 := C.blk_frozen BB 2
                    have f3 := C.blk_frozen BB 3
                    have f4 := C.blk_frozen BB 4
                    have f5 := C.blk_frozen BB 5
                    simp only [List.getElem?_toArray, List.getElem?_cons_zero, List.getElem?_cons_succ] at m0 m1 m2 m3 m4 m5
                    clear hc BB
                    by_cases hG : V.bm g o < V.gz ars.length g ⟨t, e, k⟩
                    · have hall : V.All ars.length ⟨t, e, k⟩ := by
                        by_cases h : V.All ars.length ⟨t, e, k⟩
                        · exact h
                        · rw [V.gz, if_neg h] at hG; omega
                      have hz : V.gz ars.length g ⟨t, e, k⟩ = V.bm g (some ⟨t, e, k⟩) := if_pos hall
                      have hend := Lib.hid (V.pb_take hbe.out hall (by rw [hz] at hG; exact hG))
                      have HZ := Lib.hid hz
                      clear hz hall hbe
                      go_wp2
                      go_round
                      case rel => exact ⟨e - 1, some ⟨t, e, k⟩, by rw [HZ.out], rfl, by omega, by omega, hend, Lib.hid (ri2.out.put t e k)⟩
                      case measure => simp [intOf] <;> omega
                    · have hend : Hid (V.Best g (V.PB ars.length k t (e - 1)) o) := Lib.hid (by
                        by_cases h : V.All ars.length ⟨t, e, k⟩
                        · rw [V.gz, if_pos h] at hG; exact V.pb_leave hbe.out h hG
                        · exact V.pb_pass hbe.out h)
                      clear hbe
                      go_wp2
                      go_round
                      case rel => exact ⟨e - 1, o, rfl, rfl, by omega, by omega, hend, ri2⟩
                      case measure => simp [intOf] <;> omega
                  · obtain rfl : e = t := by omega
                    have hend := Lib.hid (V.best_congr g (V.pb_bottom ars.length k e) hbe.out)
                    clear hbe
                    go_wp2
                    go_round
                    case rel => exact ⟨e + 1, o, rfl, rfl, by omega, by omega, hend, hri⟩
                    case measure => simp [intOf] <;> omega
              · obtain rfl : t = ars.length := by omega
                have hend := Lib.hid (hnx.out o hbt.out)
                clear hbt hnx
                go_wp2
                go_round
                case rel => exact ⟨q + 1, sg - 2, o, rfl, rfl, hend, hri⟩
                case measure => simp [intOf] <;> omega
      · have hend := Lib.hid (V.best_congr g (V.pb_end ars.length s (by omega) (by omega)) hbo.out)
        have RR := hri.out.res
        have BB := hri.out.best
        have BL := Lib.hid hri.out.bel
        clear hbo hri
        have r0 := C.blk_cell RR 0
        have r1 := C.blk_cell RR 1
        have r2 := C.blk_cell RR 2
        have r3 := C.blk_cell RR 3
        have r4 := C.blk_cell RR 4
        have r5 := C.blk_cell RR 5
        have s0 := C.blk_frozen RR 0
        have s1 := C.blk_frozen RR 1
        have s2 := C.blk_frozen RR 2
        have s3 := C.blk_frozen RR 3
        have s4 := C.blk_frozen RR 4
        have s5 := C.blk_frozen RR 5
        simp only [List.getElem?_toArray, List.getElem?_cons_zero, List.getElem?_cons_succ] at r0 r1 r2 r3 r4 r5
        cases o with
        | none =>
          skip
          dsimp only [V.bm, C.chc] at *
          have m0 := C.blk_cell BB 0
          have m1 := C.blk_cell BB 1
          have m2 := C.blk_cell BB 2
          have m3 := C.blk_cell BB 3
          have m4 := C.blk_cell BB 4
          have m5 := C.blk_cell BB 5
          simp only [List.getElem?_toArray, List.getElem?_cons_zero, List.getElem?_cons_succ] at m0 m1 m2 m3 m4 m5
          have h6 := C.set6 RR (.int .i64 0) (.int .i64 0) (.int .i64 0) (.int .i64 0) (.int .i64 0) (.slice none 0 0)
          have hb6 := C.bel6 (R := w.heap.size + 1 + 1) BL.out (by omega) (.int .i64 0) (.int .i64 0) (.int .i64 0) (.int .i64 0) (.int .i64 0) (.slice none 0 0)
          have z0 := C.blk_cell h6 0
          have z1 := C.blk_cell h6 1
          have z2 := C.blk_cell h6 2
          have z3 := C.blk_cell h6 3
          have z4 := C.blk_cell h6 4
          have z5 := C.blk_cell h6 5
          simp only [List.getElem?_toArray, List.getElem?_cons_zero, List.getElem?_cons_succ] at z0 z1 z2 z3 z4 z5
          have HB6 := Lib.hid hb6
          clear h6 hb6 BB RR
          go_wp2_with fail
          refine bodyPost_ret (v := .tuple #[C.chv none, .bool false]) (by simp [results, Try.results14, go_sem, C.chv, *]) rfl ?_
          exact ⟨⟨none, rfl, fun h => absurd (hm'.out.symm.trans h) (by decide), fun _ => hend.out⟩, HB6.out⟩
        | some m' =>
          obtain ⟨mt, me, mk⟩ := m'
          have hM2 := hend.out.2.1
          have hMd : decide ((1 : Int) < g ⟨mt, me, mk⟩) = true := decide_eq_true (by omega)
          clear hM2
          dsimp only [V.bm, C.chc] at *
          have m0 := C.blk_cell BB 0
          have m1 := C.blk_cell BB 1
          have m2 := C.blk_cell BB 2
          have m3 := C.blk_cell BB 3
          have m4 := C.blk_cell BB 4
          have m5 := C.blk_cell BB 5
          simp only [List.getElem?_toArray, List.getElem?_cons_zero, List.getElem?_cons_succ] at m0 m1 m2 m3 m4 m5
          have h6 := C.set6 RR (.int .i64 2) (.int .i64 mt) (.int .i64 0) (.int .i64 mk) (.int .i64 me) (.slice none 0 0)
          have hb6 := C.bel6 (R := w.heap.size + 1 + 1) BL.out (by omega) (.int .i64 2) (.int .i64 mt) (.int .i64 0) (.int .i64 mk) (.int .i64 me) (.slice none 0 0)
          have z0 := C.blk_cell h6 0
          have z1 := C.blk_cell h6 1
          have z2 := C.blk_cell h6 2
          have z3 := C.blk_cell h6 3
          have z4 := C.blk_cell h6 4
          have z5 := C.blk_cell h6 5
          simp only [List.getElem?_toArray, List.getElem?_cons_zero, List.getElem?_cons_succ] at z0 z1 z2 z3 z4 z5
          have HB6 := Lib.hid hb6
          clear h6 hb6 BB RR
          go_wp2_with fail
          refine bodyPost_ret (v := .tuple #[C.chv (some ⟨mt, me, mk⟩), .bool true]) (by simp [results, Try.results14, go_sem, C.chv, *]) rfl ?_
          exact ⟨⟨(some ⟨mt, me, mk⟩), rfl, fun h => absurd (hm'.out.symm.trans h) (by decide), fun _ => hend.out⟩, HB6.out⟩
end Go.Proofs.Ythohninbelhddaa
