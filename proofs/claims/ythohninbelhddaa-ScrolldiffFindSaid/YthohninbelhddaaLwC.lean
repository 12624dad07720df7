/-
  The statements of layer 18: ScrolldiffFind. By an AI agent.
-/
import Derived.Deep.RegionHeld3
import Derived.Test.YthohninbelhddaaRfi
import Derived.Test.YthohninbelhddaaGr2
namespace Go.Proofs.Ythohninbelhddaa
open Go.RowKit

attribute [local go_sem] guard44

def C.Fo (a b : C.VR) (o : Option V.Sc) : Prop := (C.mt a.ht b.ht a.rs.length b.rs.length = false → o = none) ∧ (C.mt a.ht b.ht a.rs.length b.rs.length = true → V.Best (fun c => V.gain a.gl b.gl c.t c.e c.k) (V.All a.rs.length) o)
theorem C.fo_unique {a b : C.VR} {o o' : Option V.Sc} (h : C.Fo a b o) (h' : C.Fo a b o') : o' = o := by
  cases hm : C.mt a.ht b.ht a.rs.length b.rs.length with
  | false => rw [h.1 hm, h'.1 hm]
  | true => exact V.best_unique _ (h'.2 hm) (h.2 hm)
set_option maxRecDepth 100000 in
set_option maxHeartbeats 16000000 in
theorem findlaw_any (B : Nat) (a b : C.VR) (w : World) (ha : C.Rv w B a.A a.rs) (hb : C.Rv w B b.A b.rs) (hB : B ≤ w.heap.size) :
    Calls Try.prog 3 #[a.val, b.val] w fun e' w' => e' = .returned (.bool true) ∧ Below w.heap.size w w' := by
  have GA : Hid (∀ w', Below w.heap.size w w' → Calls Try.prog 11 #[a.val] w' fun e w'' => C.Grt2 a.rs w' w'' e) := Lib.hid (fun w' hb' => great2_any B a w' (ha.below hb' hB) (Nat.le_trans hB hb'.size))
  have GB : Hid (∀ w', Below w.heap.size w w' → Calls Try.prog 11 #[b.val] w' fun e w'' => C.Grt2 b.rs w' w'' e) := Lib.hid (fun w' hb' => great2_any B b w' (hb.below hb' hB) (Nat.le_trans hB hb'.size))
  have FA : Hid (∀ w', Below w.heap.size w w' → (a.rs.length ≤ 10 ∧ ∀ x ∈ a.rs, x.2.2.length ≤ 40) → Calls Try.prog 13 #[a.val, b.val] w' fun e' w'' => (∃ o, e' = .returned (.tuple #[C.chv o, .bool o.isSome]) ∧ C.Fo a b o) ∧ Below w'.heap.size w' w'') := Lib.hid (fun w' hb' hl => by
    refine (find_any B a b w' (ha.below hb' hB) (hb.below hb' hB) (Nat.le_trans hB hb'.size) (by omega)).mono ?_
    rintro e' w'' ⟨⟨o, rfl, h1, h2⟩, h3⟩
    exact ⟨⟨o, rfl, h1, h2⟩, h3⟩)
  have FB : Hid (∀ o w', Below w.heap.size w w' → (a.rs.length ≤ 10 ∧ ∀ x ∈ a.rs, x.2.2.length ≤ 40) → C.Fo a b o → Calls Try.prog 14 #[a.val, b.val] w' fun e' w'' => e' = .returned (.tuple #[C.chv o, .bool o.isSome]) ∧ Below w'.heap.size w' w'') := Lib.hid (fun o w' hb' hl ho => by
    refine (reffind_any B a b w' (ha.below hb' hB) (hb.below hb' hB) (Nat.le_trans hB hb'.size) (by omega) (fun r hr => by have := hl.2 r hr; omega)).mono ?_
    rintro e' w'' ⟨⟨o', rfl, h1, h2⟩, h3⟩
    rw [C.fo_unique ho ⟨h1, h2⟩]
    exact ⟨rfl, h3⟩)
  have SC : Hid (∀ k r c n t w', Calls Try.prog 15 #[.agg #[.int .i64 k, .int .i64 r, .int .i64 c, .int .i64 n, .int .i64 t, .slice none 0 0], .agg #[.int .i64 k, .int .i64 r, .int .i64 c, .int .i64 n, .int .i64 t, .slice none 0 0]] w' fun e' w'' => e' = .returned (.bool true) ∧ Below w'.heap.size w' w'') := Lib.hid (fun k r c n t w' => by
    have := samechange_any k r c n t k r c n t w'
    simpa using this)
  generalize C.Fo a b = FO at *
  obtain ⟨aw, ah, aA, ac, ars, ar, aco, av⟩ := a
  obtain ⟨bw, bh, bA, bc, brs, br, bco, bv⟩ := b
  dsimp only [C.VR.val] at *
  clear ha hb
  obtain ⟨W, hW⟩ : ∃ W, (w.alloc (.cells #[.int .i64 aw, .int .i64 ah, .slice aA ars.length ac, .int .i64 ar, .int .i64 aco, .bool av] 24)).alloc (.cells #[.int .i64 bw, .int .i64 bh, .slice bA brs.length bc, .int .i64 br, .int .i64 bco, .bool bv] 24) = W := ⟨_, rfl⟩
  have hbW : Below w.heap.size w W := by rw [← hW]; exact ((Below.refl _ w).alloc (Nat.le_refl _) _).alloc (by simp) _
  have V0 : C.V2 W w.heap.size #[.int .i64 aw, .int .i64 ah, .slice aA ars.length ac, .int .i64 ar, .int .i64 aco, .bool av] #[.int .i64 bw, .int .i64 bh, .slice bA brs.length bc, .int .i64 br, .int .i64 bco, .bool bv] := by rw [← hW]; exact C.V2.new w _ _
  have xa0 := C.blk_cell V0.a 0
  have xa1 := C.blk_cell V0.a 1
  have xa2 := C.blk_cell V0.a 2
  have xa3 := C.blk_cell V0.a 3
  have xa4 := C.blk_cell V0.a 4
  have xa5 := C.blk_cell V0.a 5
  simp only [List.getElem?_toArray, List.getElem?_cons_zero, List.getElem?_cons_succ] at xa0 xa1 xa2 xa3 xa4 xa5
  have xb0 := C.blk_cell V0.b 0
  have xb1 := C.blk_cell V0.b 1
  have xb2 := C.blk_cell V0.b 2
  have xb3 := C.blk_cell V0.b 3
  have xb4 := C.blk_cell V0.b 4
  have xb5 := C.blk_cell V0.b 5
  simp only [List.getElem?_toArray, List.getElem?_cons_zero, List.getElem?_cons_succ] at xb0 xb1 xb2 xb3 xb4 xb5
  have V0 := Lib.hid V0
  go_enter Try.func3, Try.ntmps3
  go_wp2_with fail
  refine (GA.out _ hbW).mono ?_
  rintro e' w1 ⟨r1, rfl, hr1, b1'⟩
  have b1 := hbW.trans (b1'.mono hbW.size)
  have V1 := Lib.hid (V0.out.below b1')
  clear xa0 xa1 xa2 xa3 xa4 xa5 xb0 xb1 xb2 xb3 xb4 xb5 hW
  have xa0 := C.blk_cell V1.out.a 0
  have xa1 := C.blk_cell V1.out.a 1
  have xa2 := C.blk_cell V1.out.a 2
  have xa3 := C.blk_cell V1.out.a 3
  have xa4 := C.blk_cell V1.out.a 4
  have xa5 := C.blk_cell V1.out.a 5
  simp only [List.getElem?_toArray, List.getElem?_cons_zero, List.getElem?_cons_succ] at xa0 xa1 xa2 xa3 xa4 xa5
  have xb0 := C.blk_cell V1.out.b 0
  have xb1 := C.blk_cell V1.out.b 1
  have xb2 := C.blk_cell V1.out.b 2
  have xb3 := C.blk_cell V1.out.b 3
  have xb4 := C.blk_cell V1.out.b 4
  have xb5 := C.blk_cell V1.out.b 5
  simp only [List.getElem?_toArray, List.getElem?_cons_zero, List.getElem?_cons_succ] at xb0 xb1 xb2 xb3 xb4 xb5
  cases r1 with
  | true =>
    clear GA GB
    go_wp2_with fail
    refine (awake_any _).mono ?_
    rintro e' w2 ⟨rfl, b2⟩
    go_wp2_with fail
    go_ret
    exact ⟨rfl, b1.trans (b2.mono b1.size)⟩
  | false =>
    have hal := Lib.hid (hr1 rfl)
    clear hr1
    go_wp2_with fail
    refine (GB.out _ b1).mono ?_
    rintro e' w2 ⟨r2, rfl, hr2, b2'⟩
    have b2 := b1.trans (b2'.mono b1.size)
    have V2 := Lib.hid (V1.out.below b2')
    clear xa0 xa1 xa2 xa3 xa4 xa5 xb0 xb1 xb2 xb3 xb4 xb5 b2' V0 hbW
    have xa0 := C.blk_cell V2.out.a 0
    have xa1 := C.blk_cell V2.out.a 1
    have xa2 := C.blk_cell V2.out.a 2
    have xa3 := C.blk_cell V2.out.a 3
    have xa4 := C.blk_cell V2.out.a 4
    have xa5 := C.blk_cell V2.out.a 5
    simp only [List.getElem?_toArray, List.getElem?_cons_zero, List.getElem?_cons_succ] at xa0 xa1 xa2 xa3 xa4 xa5
    have xb0 := C.blk_cell V2.out.b 0
    have xb1 := C.blk_cell V2.out.b 1
    have xb2 := C.blk_cell V2.out.b 2
    have xb3 := C.blk_cell V2.out.b 3
    have xb4 := C.blk_cell V2.out.b 4
    have xb5 := C.blk_cell V2.out.b 5
    simp only [List.getElem?_toArray, List.getElem?_cons_zero, List.getElem?_cons_succ] at xb0 xb1 xb2 xb3 xb4 xb5
    cases r2 with
    | true =>
      clear GA GB
      go_wp2_with fail
      refine (awake_any _).mono ?_
      rintro e' w3 ⟨rfl, b3⟩
      go_wp2_with fail
      go_ret
      exact ⟨rfl, b2.trans (b3.mono b2.size)⟩
    | false =>
      have hbl := Lib.hid (hr2 rfl)
      clear hr2 GA GB V1
      go_wp2_with fail
      refine (FA.out _ b2 hal.out).mono ?_
      rintro e' w3 ⟨⟨o, rfl, ho⟩, b3'⟩
      have b3 := b2.trans (b3'.mono b2.size)
      have V3 := Lib.hid (V2.out.below b3')
      have ho := Lib.hid ho
      clear xa0 xa1 xa2 xa3 xa4 xa5 xb0 xb1 xb2 xb3 xb4 xb5 FA
      cases o with
      | none =>
        dsimp only [C.chv, Option.isSome]
        have c4' : Below w3.heap.size w3 (w3.alloc (.cells #[.int .i64 0, .int .i64 0, .int .i64 0, .int .i64 0, .int .i64 0, .slice none 0 0] 29)) := (Below.refl _ w3).alloc (Nat.le_refl _) _
        have b4 := b3.trans (c4'.mono b3.size)
        have H4 := Lib.hid (C.heap_new w3 (.cells #[.int .i64 0, .int .i64 0, .int .i64 0, .int .i64 0, .int .i64 0, .slice none 0 0] 29))
        have V4 := Lib.hid (V3.out.below c4')
        have xa0 := C.blk_cell V4.out.a 0
        have xa1 := C.blk_cell V4.out.a 1
        have xa2 := C.blk_cell V4.out.a 2
        have xa3 := C.blk_cell V4.out.a 3
        have xa4 := C.blk_cell V4.out.a 4
        have xa5 := C.blk_cell V4.out.a 5
        simp only [List.getElem?_toArray, List.getElem?_cons_zero, List.getElem?_cons_succ] at xa0 xa1 xa2 xa3 xa4 xa5
        have xb0 := C.blk_cell V4.out.b 0
        have xb1 := C.blk_cell V4.out.b 1
        have xb2 := C.blk_cell V4.out.b 2
        have xb3 := C.blk_cell V4.out.b 3
        have xb4 := C.blk_cell V4.out.b 4
        have xb5 := C.blk_cell V4.out.b 5
        simp only [List.getElem?_toArray, List.getElem?_cons_zero, List.getElem?_cons_succ] at xb0 xb1 xb2 xb3 xb4 xb5

        go_wp2_with fail
        refine (FB.out _ _ b4 hal.out ho.out).mono ?_
        rintro e' w5 ⟨rfl, b5'⟩
        have b5 := b4.trans (b5'.mono b4.size)
        have V5 := Lib.hid (V4.out.below b5')
        have H5 := (b5'.block w3.heap.size (Array.getElem?_eq_some_iff.1 H4.out).1).trans H4.out
        clear xa0 xa1 xa2 xa3 xa4 xa5 xb0 xb1 xb2 xb3 xb4 xb5
        obtain ⟨N4, hN4⟩ : ∃ N4, w3.heap.size = N4 := ⟨_, rfl⟩
        rw [hN4] at H5 ⊢
        clear FB V2 V4 b5' c4' H4 V3 b3' hal hbl ho
        dsimp only [C.chv, Option.isSome]
        have c6' : Below w5.heap.size w5 (w5.alloc (.cells #[.int .i64 0, .int .i64 0, .int .i64 0, .int .i64 0, .int .i64 0, .slice none 0 0] 29)) := (Below.refl _ w5).alloc (Nat.le_refl _) _
        have b6 := b5.trans (c6'.mono b5.size)
        have H6 := (c6'.block N4 (Array.getElem?_eq_some_iff.1 H5).1).trans H5
        have y0 := C.blk_cell H6 0
        have y1 := C.blk_cell H6 1
        have y2 := C.blk_cell H6 2
        have y3 := C.blk_cell H6 3
        have y4 := C.blk_cell H6 4
        have y5 := C.blk_cell H6 5
        simp only [List.getElem?_toArray, List.getElem?_cons_zero, List.getElem?_cons_succ] at y0 y1 y2 y3 y4 y5

        have H6 := Lib.hid H6
        clear H5 V5 hN4
        go_wp2_with fail
        refine (SC.out _ _ _ _ _ _).mono ?_
        rintro e' w7 ⟨rfl, b7'⟩
        have b7 := b6.trans (b7'.mono b6.size)
        clear y0 y1 y2 y3 y4 y5 H6
        go_wp2_with fail
        refine (awake_any _).mono ?_
        rintro e' w8 ⟨rfl, b8⟩
        go_wp2_with fail
        go_ret
        exact ⟨rfl, b7.trans (b8.mono b7.size)⟩
      | some m =>
        obtain ⟨mt, me, mk⟩ := m
        dsimp only [C.chv, Option.isSome]
        have c4' : Below w3.heap.size w3 (w3.alloc (.cells #[.int .i64 2, .int .i64 mt, .int .i64 0, .int .i64 mk, .int .i64 me, .slice none 0 0] 29)) := (Below.refl _ w3).alloc (Nat.le_refl _) _
        have b4 := b3.trans (c4'.mono b3.size)
        have H4 := Lib.hid (C.heap_new w3 (.cells #[.int .i64 2, .int .i64 mt, .int .i64 0, .int .i64 mk, .int .i64 me, .slice none 0 0] 29))
        have V4 := Lib.hid (V3.out.below c4')
        have xa0 := C.blk_cell V4.out.a 0
        have xa1 := C.blk_cell V4.out.a 1
        have xa2 := C.blk_cell V4.out.a 2
        have xa3 := C.blk_cell V4.out.a 3
        have xa4 := C.blk_cell V4.out.a 4
        have xa5 := C.blk_cell V4.out.a 5
        simp only [List.getElem?_toArray, List.getElem?_cons_zero, List.getElem?_cons_succ] at xa0 xa1 xa2 xa3 xa4 xa5
        have xb0 := C.blk_cell V4.out.b 0
        have xb1 := C.blk_cell V4.out.b 1
        have xb2 := C.blk_cell V4.out.b 2
        have xb3 := C.blk_cell V4.out.b 3
        have xb4 := C.blk_cell V4.out.b 4
        have xb5 := C.blk_cell V4.out.b 5
        simp only [List.getElem?_toArray, List.getElem?_cons_zero, List.getElem?_cons_succ] at xb0 xb1 xb2 xb3 xb4 xb5

        go_wp2_with fail
        refine (FB.out _ _ b4 hal.out ho.out).mono ?_
        rintro e' w5 ⟨rfl, b5'⟩
        have b5 := b4.trans (b5'.mono b4.size)
        have V5 := Lib.hid (V4.out.below b5')
        have H5 := (b5'.block w3.heap.size (Array.getElem?_eq_some_iff.1 H4.out).1).trans H4.out
        clear xa0 xa1 xa2 xa3 xa4 xa5 xb0 xb1 xb2 xb3 xb4 xb5
        obtain ⟨N4, hN4⟩ : ∃ N4, w3.heap.size = N4 := ⟨_, rfl⟩
        rw [hN4] at H5 ⊢
        clear FB V2 V4 b5' c4' H4 V3 b3' hal hbl ho
        dsimp only [C.chv, Option.isSome]
        have c6' : Below w5.heap.size w5 (w5.alloc (.cells #[.int .i64 2, .int .i64 mt, .int .i64 0, .int .i64 mk, .int .i64 me, .slice none 0 0] 29)) := (Below.refl _ w5).alloc (Nat.le_refl _) _
        have b6 := b5.trans (c6'.mono b5.size)
        have H6 := (c6'.block N4 (Array.getElem?_eq_some_iff.1 H5).1).trans H5
        have y0 := C.blk_cell H6 0
        have y1 := C.blk_cell H6 1
        have y2 := C.blk_cell H6 2
        have y3 := C.blk_cell H6 3
        have y4 := C.blk_cell H6 4
        have y5 := C.blk_cell H6 5
        simp only [List.getElem?_toArray, List.getElem?_cons_zero, List.getElem?_cons_succ] at y0 y1 y2 y3 y4 y5

        have H6 := Lib.hid H6
        clear H5 V5 hN4
        go_wp2_with fail
        refine (SC.out _ _ _ _ _ _).mono ?_
        rintro e' w7 ⟨rfl, b7'⟩
        have b7 := b6.trans (b7'.mono b6.size)
        clear y0 y1 y2 y3 y4 y5 H6
        go_wp2_with fail
        refine (awake_any _).mono ?_
        rintro e' w8 ⟨rfl, b8⟩
        go_wp2_with fail
        go_ret
        exact ⟨rfl, b7.trans (b8.mono b7.size)⟩
end Go.Proofs.Ythohninbelhddaa
