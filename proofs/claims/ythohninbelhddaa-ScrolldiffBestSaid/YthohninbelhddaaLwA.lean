/-
  The statements of layer 18: ScrolldiffEqual, ScrolldiffInverse, ScrolldiffBest. By an AI agent.
-/
import Derived.Deep.RegionHeld3
import Derived.Test.YthohninbelhddaaAw
namespace Go.Proofs.Ythohninbelhddaa
open Go.RowKit

attribute [local go_sem] guard44

/-- The boxes of the two views. -/
structure C.V2 (w : World) (N : Nat) (ca cb : Array Value) : Prop where
  a : w.heap[N]? = some (.cells ca 24 (0, 0))
  b : w.heap[N + 1]? = some (.cells cb 24 (0, 0))
theorem C.V2.below {w w' : World} {N : Nat} {ca cb : Array Value} (h : C.V2 w N ca cb) (hb : Below w.heap.size w w') : C.V2 w' N ca cb :=
  ⟨(hb.block N (Array.getElem?_eq_some_iff.1 h.a).1).trans h.a, (hb.block (N + 1) (Array.getElem?_eq_some_iff.1 h.b).1).trans h.b⟩
theorem C.V2.new (w : World) (ca cb : Array Value) : C.V2 ((w.alloc (.cells ca 24)).alloc (.cells cb 24)) w.heap.size ca cb :=
  ⟨(Below.heap_alloc _ _ _ (by simp)).trans (C.heap_new w _), by have := C.heap_new (w.alloc (.cells ca 24)) (.cells cb 24); rwa [World.size_alloc] at this⟩
/-- A view and itself: no scroll. -/
theorem C.self_none {a : C.VR} {o : Option V.Sc} (h1 : C.mt a.ht a.ht a.rs.length a.rs.length = false → o = none) (h2 : C.mt a.ht a.ht a.rs.length a.rs.length = true → V.Best (fun c => V.gain a.gl a.gl c.t c.e c.k) (V.All a.rs.length) o) : o = none := by
  cases h : C.mt a.ht a.ht a.rs.length a.rs.length with
  | false => exact h1 h
  | true =>
    cases o with
    | none => rfl
    | some m =>
      have := (h2 h).2.1
      have h3 := V.gain_self a.gl m.t m.e m.k
      dsimp only at this
      omega
theorem C.mt_ht {ha hb : Int} {na nb : Nat} (h : ¬ ha = hb) : C.mt ha hb na nb = false := decide_eq_false (fun g => h g.1)
theorem C.mt_comm (ha hb : Int) (na nb : Nat) : C.mt ha hb na nb = C.mt hb ha nb na := by
  unfold C.mt
  rw [decide_eq_decide]
  omega
/-- The gain of the opposite scroll. -/
theorem C.inv_law (a b : C.VR) (t e k k' : Int) (hk : k' = -k ∨ (k' = k ∧ k = -9223372036854775808)) (hl : a.rs.length ≤ 1000) :
    C.gn a b t e k - C.gn b a t e k' ≤ (if V.poss a.rs.length t e k then max k (-k) else 0) ∧ C.gn b a t e k' - C.gn a b t e k ≤ (if V.poss a.rs.length t e k then max k (-k) else 0) := by
  by_cases hm : C.mt a.ht b.ht a.rs.length b.rs.length = true
  · have hab : b.rs.length = a.rs.length := by have := of_decide_eq_true hm; omega
    by_cases hp : V.poss a.rs.length t e k
    · have hk' : k' = -k := by
        rcases hk with hk | ⟨_, hk⟩
        · exact hk
        · exfalso
          obtain ⟨h1, h2, h3, h4, h5, h6⟩ := hp
          omega
      subst hk'
      have hp' : V.poss b.rs.length t e (-k) := by
        obtain ⟨h1, h2, h3, h4, h5, h6⟩ := hp
        rw [hab]
        exact ⟨h1, h2, h3, by omega, by omega, by omega⟩
      rw [if_pos hp]
      unfold C.gn
      rw [if_pos ⟨hm, hp⟩, if_pos ⟨by rw [← C.mt_comm]; exact hm, hp'⟩]
      exact V.inverse a.gl b.gl hp
    · have hp' : ¬ V.poss b.rs.length t e k' := fun h => by
        obtain ⟨h1, h2, h3, h4, h5, h6⟩ := h
        rw [hab] at h3
        apply hp
        rcases hk with rfl | ⟨rfl, hk⟩
        · exact ⟨h1, h2, h3, by omega, by omega, by omega⟩
        · exfalso; omega
      rw [if_neg hp]
      unfold C.gn
      rw [if_neg (fun h => hp h.2), if_neg (fun h => hp' h.2)]
      omega
  · have h1 : C.gn a b t e k = 0 := if_neg (fun h => hm h.1)
    have h2 : C.gn b a t e k' = 0 := if_neg (fun h => hm (by rw [C.mt_comm]; exact h.1))
    rw [h1, h2]
    split <;> omega
/-- No gain is greater than that of the scroll that is found. -/
theorem C.best_law {a b : C.VR} {o : Option V.Sc} (h1 : C.mt a.ht b.ht a.rs.length b.rs.length = false → o = none) (h2 : C.mt a.ht b.ht a.rs.length b.rs.length = true → V.Best (fun c => V.gain a.gl b.gl c.t c.e c.k) (V.All a.rs.length) o) :
    match o with
    | none => ∀ t e k, C.gn a b t e k ≤ 1
    | some m => 2 ≤ C.gn a b m.t m.e m.k ∧ ∀ t e k, C.gn a b t e k ≤ C.gn a b m.t m.e m.k := by
  cases o with
  | none =>
    intro t e k
    show C.gn a b t e k ≤ 1
    unfold C.gn
    split
    · rename_i h
      exact V.best_none_le _ (h2 h.1) (c := ⟨t, e, k⟩) h.2
    · omega
  | some m =>
    have hm : C.mt a.ht b.ht a.rs.length b.rs.length = true := by
      cases h : C.mt a.ht b.ht a.rs.length b.rs.length with
      | true => rfl
      | false => cases h1 h
    have hb := h2 hm
    have he : C.gn a b m.t m.e m.k = V.gain a.gl b.gl m.t m.e m.k := if_pos ⟨hm, hb.1⟩
    have h3 := hb.2.1
    dsimp only at h3
    refine ⟨by rw [he]; exact h3, fun t e k => ?_⟩
    rw [he]
    unfold C.gn
    split
    · rename_i h
      exact V.best_some_le _ hb (c := ⟨t, e, k⟩) h.2
    · omega
theorem C.gn_le (a b : C.VR) (t e k : Int) (hl : a.rs.length ≤ 1000) : C.gn a b t e k ≤ 1000 ∧ -1000 ≤ C.gn a b t e k := by
  unfold C.gn
  split
  · rename_i h
    obtain ⟨-, h1, h2, h3, -⟩ := h
    have := V.gain_le a.gl b.gl t e k h1 (by omega)
    omega
  · omega

set_option maxRecDepth 100000 in
set_option maxHeartbeats 16000000 in
theorem equallaw_any (B : Nat) (a b : C.VR) (w : World) (ha : C.Rv w B a.A a.rs) (hb : C.Rv w B b.A b.rs) (hB : B ≤ w.heap.size) :
    Calls Try.prog 6 #[a.val, b.val] w fun e' w' => e' = .returned (.bool true) ∧ Below w.heap.size w w' := by
  have GA : Hid (∀ w', Below w.heap.size w w' → Calls Try.prog 11 #[a.val] w' fun e w'' => C.Grt a.rs.length w' w'' e) := Lib.hid (fun w' hb' => great_any B a w' (ha.below hb' hB) (Nat.le_trans hB hb'.size))
  have GB : Hid (∀ w', Below w.heap.size w w' → Calls Try.prog 11 #[b.val] w' fun e w'' => C.Grt b.rs.length w' w'' e) := Lib.hid (fun w' hb' => great_any B b w' (hb.below hb' hB) (Nat.le_trans hB hb'.size))
  have FA : Hid (∀ w', Below w.heap.size w w' → a.rs.length ≤ 10 → Calls Try.prog 13 #[a.val, a.val] w' fun e' w'' => e' = .returned (.tuple #[C.chv none, .bool false]) ∧ Below w'.heap.size w' w'') := Lib.hid (fun w' hb' hl => by
    refine (find_any B a a w' (ha.below hb' hB) (ha.below hb' hB) (Nat.le_trans hB hb'.size) (by omega)).mono ?_
    rintro e' w'' ⟨⟨o, rfl, h1, h2⟩, h3⟩
    have ho := C.self_none h1 h2
    subst ho
    exact ⟨rfl, h3⟩)
  have FB : Hid (∀ w', Below w.heap.size w w' → a.rs.length ≤ 10 → Calls Try.prog 13 #[a.val, b.val] w' fun e' w'' => ∃ o : Option V.Sc, e' = .returned (.tuple #[C.chv o, .bool o.isSome]) ∧ (¬ a.ht = b.ht → o = none) ∧ Below w'.heap.size w' w'') := Lib.hid (fun w' hb' hl => by
    refine (find_any B a b w' (ha.below hb' hB) (hb.below hb' hB) (Nat.le_trans hB hb'.size) (by omega)).mono ?_
    rintro e' w'' ⟨⟨o, rfl, h1, h2⟩, h3⟩
    exact ⟨o, rfl, fun h => h1 (C.mt_ht h), h3⟩)
  have SC : Hid (∀ w', Calls Try.prog 15 #[.agg #[.int .i64 0, .int .i64 0, .int .i64 0, .int .i64 0, .int .i64 0, .slice none 0 0], .agg #[.int .i64 0, .int .i64 0, .int .i64 0, .int .i64 0, .int .i64 0, .slice none 0 0]] w' fun e' w'' => e' = .returned (.bool true) ∧ Below w'.heap.size w' w'') := Lib.hid (fun w' => samechange_any 0 0 0 0 0 0 0 0 0 0 w')
  obtain ⟨aw, ah, aA, ac, ars, ar, aco, av⟩ := a
  obtain ⟨bw, bh, bA, bc, brs, br, bco, bv⟩ := b
  dsimp only [C.VR.val] at *
  clear ha hb
  obtain ⟨W, hW⟩ : ∃ W, (w.alloc (.cells #[.int .i64 aw, .int .i64 ah, .slice aA ars.length ac, .int .i64 ar, .int .i64 aco, .bool av] 24)).alloc (.cells #[.int .i64 bw, .int .i64 bh, .slice bA brs.length bc, .int .i64 br, .int .i64 bco, .bool bv] 24) = W := ⟨_, rfl⟩
  have hbW : Below w.heap.size w W := by rw [← hW]; exact ((Below.refl _ w).alloc (Nat.le_refl _) _).alloc (by simp) _
  have V0 : C.V2 W w.heap.size #[.int .i64 aw, .int .i64 ah, .slice aA ars.length ac, .int .i64 ar, .int .i64 aco, .bool av] #[.int .i64 bw, .int .i64 bh, .slice bA brs.length bc, .int .i64 br, .int .i64 bco, .bool bv] := by rw [← hW]; exact C.V2.new w _ _
  have xa0 := C.blk_cell V0.a 0
  have xa1 := C.blk_cell V0.a 1
  have xa2 := C.blk_cell V0.a 2
  have xa3 := C.blk_cell V0.a 3
  have xa4 := C.blk_cell V0.a 4
  have xa5 := C.blk_cell V0.a 5
  simp only [List.getElem?_toArray, List.getElem?_cons_zero, List.getElem?_cons_succ] at xa0 xa1 xa2 xa3 xa4 xa5
  have xb0 := C.blk_cell V0.b 0
  have xb1 := C.blk_cell V0.b 1
  have xb2 := C.blk_cell V0.b 2
  have xb3 := C.blk_cell V0.b 3
  have xb4 := C.blk_cell V0.b 4
  have xb5 := C.blk_cell V0.b 5
  simp only [List.getElem?_toArray, List.getElem?_cons_zero, List.getElem?_cons_succ] at xb0 xb1 xb2 xb3 xb4 xb5
  have V0 := Lib.hid V0
  go_enter Try.func6, Try.ntmps6
  go_wp2_with fail
  refine (GA.out _ hbW).mono ?_
  rintro e' w1 ⟨r1, rfl, hr1, b1'⟩
  have b1 := hbW.trans (b1'.mono hbW.size)
  have V1 := Lib.hid (V0.out.below b1')
  clear xa0 xa1 xa2 xa3 xa4 xa5 xb0 xb1 xb2 xb3 xb4 xb5 hW
  have xa0 := C.blk_cell V1.out.a 0
  have xa1 := C.blk_cell V1.out.a 1
  have xa2 := C.blk_cell V1.out.a 2
  have xa3 := C.blk_cell V1.out.a 3
  have xa4 := C.blk_cell V1.out.a 4
  have xa5 := C.blk_cell V1.out.a 5
  simp only [List.getElem?_toArray, List.getElem?_cons_zero, List.getElem?_cons_succ] at xa0 xa1 xa2 xa3 xa4 xa5
  have xb0 := C.blk_cell V1.out.b 0
  have xb1 := C.blk_cell V1.out.b 1
  have xb2 := C.blk_cell V1.out.b 2
  have xb3 := C.blk_cell V1.out.b 3
  have xb4 := C.blk_cell V1.out.b 4
  have xb5 := C.blk_cell V1.out.b 5
  simp only [List.getElem?_toArray, List.getElem?_cons_zero, List.getElem?_cons_succ] at xb0 xb1 xb2 xb3 xb4 xb5
  cases r1 with
  | true =>
    clear GA GB
    go_wp2_with fail
    refine (awake_any _).mono ?_
    rintro e' w2 ⟨rfl, b2⟩
    go_wp2_with fail
    go_ret
    exact ⟨rfl, b1.trans (b2.mono b1.size)⟩
  | false =>
    have hal := Lib.hid (hr1 rfl)
    clear hr1
    go_wp2_with fail
    refine (GB.out _ b1).mono ?_
    rintro e' w2 ⟨r2, rfl, hr2, b2'⟩
    have b2 := b1.trans (b2'.mono b1.size)
    have V2 := Lib.hid (V1.out.below b2')
    clear xa0 xa1 xa2 xa3 xa4 xa5 xb0 xb1 xb2 xb3 xb4 xb5 b2' V0 hbW
    have xa0 := C.blk_cell V2.out.a 0
    have xa1 := C.blk_cell V2.out.a 1
    have xa2 := C.blk_cell V2.out.a 2
    have xa3 := C.blk_cell V2.out.a 3
    have xa4 := C.blk_cell V2.out.a 4
    have xa5 := C.blk_cell V2.out.a 5
    simp only [List.getElem?_toArray, List.getElem?_cons_zero, List.getElem?_cons_succ] at xa0 xa1 xa2 xa3 xa4 xa5
    have xb0 := C.blk_cell V2.out.b 0
    have xb1 := C.blk_cell V2.out.b 1
    have xb2 := C.blk_cell V2.out.b 2
    have xb3 := C.blk_cell V2.out.b 3
    have xb4 := C.blk_cell V2.out.b 4
    have xb5 := C.blk_cell V2.out.b 5
    simp only [List.getElem?_toArray, List.getElem?_cons_zero, List.getElem?_cons_succ] at xb0 xb1 xb2 xb3 xb4 xb5
    cases r2 with
    | true =>
      clear GA GB
      go_wp2_with fail
      refine (awake_any _).mono ?_
      rintro e' w3 ⟨rfl, b3⟩
      go_wp2_with fail
      go_ret
      exact ⟨rfl, b2.trans (b3.mono b2.size)⟩
    | false =>
      have hbl := Lib.hid (hr2 rfl)
      clear hr2 GA GB V1
      go_wp2_with fail
      refine (FA.out _ b2 hal.out).mono ?_
      rintro e' w3 ⟨rfl, b3'⟩
      have b3 := b2.trans (b3'.mono b2.size)
      have V3 := V2.out.below b3'
      clear xa0 xa1 xa2 xa3 xa4 xa5 xb0 xb1 xb2 xb3 xb4 xb5
      dsimp only [C.chv]
      have c4' : Below w3.heap.size w3 (w3.alloc (.cells #[.int .i64 0, .int .i64 0, .int .i64 0, .int .i64 0, .int .i64 0, .slice none 0 0] 29)) := (Below.refl _ w3).alloc (Nat.le_refl _) _
      have b4 := b3.trans (c4'.mono b3.size)
      have H4 := Lib.hid (C.heap_new w3 (.cells #[.int .i64 0, .int .i64 0, .int .i64 0, .int .i64 0, .int .i64 0, .slice none 0 0] 29))
      have V4 := Lib.hid (V3.below c4')
      have xa0 := C.blk_cell V4.out.a 0
      have xa1 := C.blk_cell V4.out.a 1
      have xa2 := C.blk_cell V4.out.a 2
      have xa3 := C.blk_cell V4.out.a 3
      have xa4 := C.blk_cell V4.out.a 4
      have xa5 := C.blk_cell V4.out.a 5
      simp only [List.getElem?_toArray, List.getElem?_cons_zero, List.getElem?_cons_succ] at xa0 xa1 xa2 xa3 xa4 xa5
      have xb0 := C.blk_cell V4.out.b 0
      have xb1 := C.blk_cell V4.out.b 1
      have xb2 := C.blk_cell V4.out.b 2
      have xb3 := C.blk_cell V4.out.b 3
      have xb4 := C.blk_cell V4.out.b 4
      have xb5 := C.blk_cell V4.out.b 5
      simp only [List.getElem?_toArray, List.getElem?_cons_zero, List.getElem?_cons_succ] at xb0 xb1 xb2 xb3 xb4 xb5
      go_wp2_with fail
      refine (FB.out _ b4 hal.out).mono ?_
      rintro e' w5 ⟨o, rfl, ho, b5'⟩
      have b5 := b4.trans (b5'.mono b4.size)
      have V5 := V4.out.below b5'
      have H5 := (b5'.block w3.heap.size (Array.getElem?_eq_some_iff.1 H4.out).1).trans H4.out
      clear xa0 xa1 xa2 xa3 xa4 xa5 xb0 xb1 xb2 xb3 xb4 xb5
      obtain ⟨N4, hN4⟩ : ∃ N4, w3.heap.size = N4 := ⟨_, rfl⟩
      rw [hN4] at H5 ⊢
      clear FA FB V2 V4 b5' c4' H4 V3 b3' hal hbl
      have ho : Hid (¬ ah = bh → o = none) := Lib.hid ho
      cases o with
      | none =>
        clear ho
        dsimp only [C.chv, Option.isSome]
        have c6' : Below w5.heap.size w5 (w5.alloc (.cells #[.int .i64 0, .int .i64 0, .int .i64 0, .int .i64 0, .int .i64 0, .slice none 0 0] 29)) := (Below.refl _ w5).alloc (Nat.le_refl _) _
        have b6 := b5.trans (c6'.mono b5.size)
        have V6 := V5.below c6'
        have H6 := (c6'.block N4 (Array.getElem?_eq_some_iff.1 H5).1).trans H5
        have K6 := Lib.hid (C.heap_new w5 (.cells #[.int .i64 0, .int .i64 0, .int .i64 0, .int .i64 0, .int .i64 0, .slice none 0 0] 29))
        have xa0 := C.blk_cell V6.a 0
        have xa1 := C.blk_cell V6.a 1
        have xa2 := C.blk_cell V6.a 2
        have xa3 := C.blk_cell V6.a 3
        have xa4 := C.blk_cell V6.a 4
        have xa5 := C.blk_cell V6.a 5
        simp only [List.getElem?_toArray, List.getElem?_cons_zero, List.getElem?_cons_succ] at xa0 xa1 xa2 xa3 xa4 xa5
        have xb0 := C.blk_cell V6.b 0
        have xb1 := C.blk_cell V6.b 1
        have xb2 := C.blk_cell V6.b 2
        have xb3 := C.blk_cell V6.b 3
        have xb4 := C.blk_cell V6.b 4
        have xb5 := C.blk_cell V6.b 5
        simp only [List.getElem?_toArray, List.getElem?_cons_zero, List.getElem?_cons_succ] at xb0 xb1 xb2 xb3 xb4 xb5
        have y0 := C.blk_cell H6 0
        have y1 := C.blk_cell H6 1
        have y2 := C.blk_cell H6 2
        have y3 := C.blk_cell H6 3
        have y4 := C.blk_cell H6 4
        have y5 := C.blk_cell H6 5
        simp only [List.getElem?_toArray, List.getElem?_cons_zero, List.getElem?_cons_succ] at y0 y1 y2 y3 y4 y5
        have V6 := Lib.hid V6
        have H6 := Lib.hid H6
        go_wp2_with fail
        refine (SC.out _).mono ?_
        rintro e' w7 ⟨rfl, b7'⟩
        have b7 := b6.trans (b7'.mono b6.size)
        have V7 := V6.out.below b7'
        have H7 := (b7'.block w5.heap.size (Array.getElem?_eq_some_iff.1 K6.out).1).trans K6.out
        clear xa0 xa1 xa2 xa3 xa4 xa5 xb0 xb1 xb2 xb3 xb4 xb5 y0 y1 y2 y3 y4 y5
        have xa0 := C.blk_cell V7.a 0
        have xa1 := C.blk_cell V7.a 1
        have xa2 := C.blk_cell V7.a 2
        have xa3 := C.blk_cell V7.a 3
        have xa4 := C.blk_cell V7.a 4
        have xa5 := C.blk_cell V7.a 5
        simp only [List.getElem?_toArray, List.getElem?_cons_zero, List.getElem?_cons_succ] at xa0 xa1 xa2 xa3 xa4 xa5
        have xb0 := C.blk_cell V7.b 0
        have xb1 := C.blk_cell V7.b 1
        have xb2 := C.blk_cell V7.b 2
        have xb3 := C.blk_cell V7.b 3
        have xb4 := C.blk_cell V7.b 4
        have xb5 := C.blk_cell V7.b 5
        simp only [List.getElem?_toArray, List.getElem?_cons_zero, List.getElem?_cons_succ] at xb0 xb1 xb2 xb3 xb4 xb5
        have y0 := C.blk_cell H7 0
        have y1 := C.blk_cell H7 1
        have y2 := C.blk_cell H7 2
        have y3 := C.blk_cell H7 3
        have y4 := C.blk_cell H7 4
        have y5 := C.blk_cell H7 5
        simp only [List.getElem?_toArray, List.getElem?_cons_zero, List.getElem?_cons_succ] at y0 y1 y2 y3 y4 y5
        clear V7 H7 V6 H6 K6 V5 H5 b7' c6'
        by_cases hh : ah = bh
        · have hh' : (ah != bh) = false := C.bne_f hh
          clear SC hh
          go_wp2_with fail
          refine (awake_any _).mono ?_
          rintro e' w8 ⟨rfl, b8⟩
          go_wp2_with fail
          go_ret
          exact ⟨rfl, b7.trans (b8.mono b7.size)⟩
        · have hh' : (ah != bh) = true := C.bne_t hh
          clear hh
          go_wp2_with fail
          refine (SC.out _).mono ?_
          rintro e' w8 ⟨rfl, b8'⟩
          have b8 := b7.trans (b8'.mono b7.size)
          go_wp2_with fail
          refine (awake_any _).mono ?_
          rintro e' w9 ⟨rfl, b9⟩
          go_wp2_with fail
          go_ret
          exact ⟨rfl, b8.trans (b9.mono b8.size)⟩
      | some m =>
        obtain ⟨mt, me, mk⟩ := m
        have hh : ah = bh := by
          by_cases h : ah = bh
          · exact h
          · cases ho.out h
        have hh' : (ah != bh) = false := C.bne_f hh
        clear ho hh
        dsimp only [C.chv, Option.isSome]
        have c6' : Below w5.heap.size w5 (w5.alloc (.cells #[.int .i64 2, .int .i64 mt, .int .i64 0, .int .i64 mk, .int .i64 me, .slice none 0 0] 29)) := (Below.refl _ w5).alloc (Nat.le_refl _) _
        have b6 := b5.trans (c6'.mono b5.size)
        have V6 := V5.below c6'
        have H6 := (c6'.block N4 (Array.getElem?_eq_some_iff.1 H5).1).trans H5
        have xa0 := C.blk_cell V6.a 0
        have xa1 := C.blk_cell V6.a 1
        have xa2 := C.blk_cell V6.a 2
        have xa3 := C.blk_cell V6.a 3
        have xa4 := C.blk_cell V6.a 4
        have xa5 := C.blk_cell V6.a 5
        simp only [List.getElem?_toArray, List.getElem?_cons_zero, List.getElem?_cons_succ] at xa0 xa1 xa2 xa3 xa4 xa5
        have xb0 := C.blk_cell V6.b 0
        have xb1 := C.blk_cell V6.b 1
        have xb2 := C.blk_cell V6.b 2
        have xb3 := C.blk_cell V6.b 3
        have xb4 := C.blk_cell V6.b 4
        have xb5 := C.blk_cell V6.b 5
        simp only [List.getElem?_toArray, List.getElem?_cons_zero, List.getElem?_cons_succ] at xb0 xb1 xb2 xb3 xb4 xb5
        have y0 := C.blk_cell H6 0
        have y1 := C.blk_cell H6 1
        have y2 := C.blk_cell H6 2
        have y3 := C.blk_cell H6 3
        have y4 := C.blk_cell H6 4
        have y5 := C.blk_cell H6 5
        simp only [List.getElem?_toArray, List.getElem?_cons_zero, List.getElem?_cons_succ] at y0 y1 y2 y3 y4 y5
        have V6 := Lib.hid V6
        have H6 := Lib.hid H6
        go_wp2_with fail
        refine (SC.out _).mono ?_
        rintro e' w7 ⟨rfl, b7'⟩
        have b7 := b6.trans (b7'.mono b6.size)
        have V7 := V6.out.below b7'
        clear xa0 xa1 xa2 xa3 xa4 xa5 xb0 xb1 xb2 xb3 xb4 xb5 y0 y1 y2 y3 y4 y5
        have xa0 := C.blk_cell V7.a 0
        have xa1 := C.blk_cell V7.a 1
        have xa2 := C.blk_cell V7.a 2
        have xa3 := C.blk_cell V7.a 3
        have xa4 := C.blk_cell V7.a 4
        have xa5 := C.blk_cell V7.a 5
        simp only [List.getElem?_toArray, List.getElem?_cons_zero, List.getElem?_cons_succ] at xa0 xa1 xa2 xa3 xa4 xa5
        have xb0 := C.blk_cell V7.b 0
        have xb1 := C.blk_cell V7.b 1
        have xb2 := C.blk_cell V7.b 2
        have xb3 := C.blk_cell V7.b 3
        have xb4 := C.blk_cell V7.b 4
        have xb5 := C.blk_cell V7.b 5
        simp only [List.getElem?_toArray, List.getElem?_cons_zero, List.getElem?_cons_succ] at xb0 xb1 xb2 xb3 xb4 xb5
        clear V7 V6 H6 V5 H5 b7' c6' SC
        go_wp2_with fail
        refine (awake_any _).mono ?_
        rintro e' w8 ⟨rfl, b8⟩
        go_wp2_with fail
        go_ret
        exact ⟨rfl, b7.trans (b8.mono b7.size)⟩
end Go.Proofs.Ythohninbelhddaa
