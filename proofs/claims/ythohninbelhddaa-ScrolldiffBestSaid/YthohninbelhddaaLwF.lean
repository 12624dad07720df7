/-
  The statements of layer 18: ScrolldiffBest. By an AI agent.
-/
import Derived.Deep.RegionHeld3
import Derived.Test.YthohninbelhddaaLwA
import Derived.Test.YthohninbelhddaaGr2
namespace Go.Proofs.Ythohninbelhddaa
open Go.RowKit

attribute [local go_sem] guard44

set_option maxRecDepth 100000 in
set_option maxHeartbeats 16000000 in
theorem bestlaw_any (B : Nat) (a b : C.VR) (w : World) (ha : C.Rv w B a.A a.rs) (hb : C.Rv w B b.A b.rs) (hB : B ≤ w.heap.size) :
    Calls Try.prog 4 #[a.val, b.val] w fun e' w' => e' = .returned (.bool true) ∧ Below w.heap.size w w' := by
  have GA : Hid (∀ w', Below w.heap.size w w' → Calls Try.prog 11 #[a.val] w' fun e w'' => C.Grt2 a.rs w' w'' e) := Lib.hid (fun w' hb' => great2_any B a w' (ha.below hb' hB) (Nat.le_trans hB hb'.size))
  have GB : Hid (∀ w', Below w.heap.size w w' → Calls Try.prog 11 #[b.val] w' fun e w'' => C.Grt2 b.rs w' w'' e) := Lib.hid (fun w' hb' => great2_any B b w' (hb.below hb' hB) (Nat.le_trans hB hb'.size))
  have FA : Hid (∀ w', Below w.heap.size w w' → a.rs.length ≤ 10 → Calls Try.prog 13 #[a.val, b.val] w' fun e' w'' => (∃ o, e' = .returned (.tuple #[C.chv o, .bool o.isSome]) ∧ match o with
    | none => ∀ t e k, C.gn a b t e k ≤ 1
    | some m => 2 ≤ C.gn a b m.t m.e m.k ∧ ∀ t e k, C.gn a b t e k ≤ C.gn a b m.t m.e m.k) ∧ Below w'.heap.size w' w'') := Lib.hid (fun w' hb' hl => by
    refine (find_any B a b w' (ha.below hb' hB) (hb.below hb' hB) (Nat.le_trans hB hb'.size) (by omega)).mono ?_
    rintro e' w'' ⟨⟨o, rfl, h1, h2⟩, h3⟩
    exact ⟨⟨o, rfl, by have h := C.best_law h1 h2; cases o <;> exact h⟩, h3⟩)
  have G1 : Hid (∀ w', Below w.heap.size w w' → a.rs.length ≤ 10 → ∀ t e k, Calls Try.prog 16 #[a.val, b.val, .int .i64 t, .int .i64 e, .int .i64 k] w' fun e' w'' => e' = .returned (.int .i64 (C.gn a b t e k)) ∧ Below w'.heap.size w' w'') := Lib.hid (fun w' hb' hl t e k => Gain_any B a b t e k w' (ha.below hb' hB) (hb.below hb' hB) (Nat.le_trans hB hb'.size) (by omega))
  generalize C.gn a b = f at *
  obtain ⟨aw, ah, aA, ac, ars, ar, aco, av⟩ := a
  obtain ⟨bw, bh, bA, bc, brs, br, bco, bv⟩ := b
  dsimp only [C.VR.val] at *
  clear ha hb
  obtain ⟨W, hW⟩ : ∃ W, (w.alloc (.cells #[.int .i64 aw, .int .i64 ah, .slice aA ars.length ac, .int .i64 ar, .int .i64 aco, .bool av] 24)).alloc (.cells #[.int .i64 bw, .int .i64 bh, .slice bA brs.length bc, .int .i64 br, .int .i64 bco, .bool bv] 24) = W := ⟨_, rfl⟩
  have hbW : Below w.heap.size w W := by rw [← hW]; exact ((Below.refl _ w).alloc (Nat.le_refl _) _).alloc (by simp) _
  have V0 : C.V2 W w.heap.size #[.int .i64 aw, .int .i64 ah, .slice aA ars.length ac, .int .i64 ar, .int .i64 aco, .bool av] #[.int .i64 bw, .int .i64 bh, .slice bA brs.length bc, .int .i64 br, .int .i64 bco, .bool bv] := by rw [← hW]; exact C.V2.new w _ _
  have xa0 := C.blk_cell V0.a 0
  have xa1 := C.blk_cell V0.a 1
  have xa2 := C.blk_cell V0.a 2
  have xa3 := C.blk_cell V0.a 3
  have xa4 := C.blk_cell V0.a 4
  have xa5 := C.blk_cell V0.a 5
  simp only [List.getElem?_toArray, List.getElem?_cons_zero, List.getElem?_cons_succ] at xa0 xa1 xa2 xa3 xa4 xa5
  have xb0 := C.blk_cell V0.b 0
  have xb1 := C.blk_cell V0.b 1
  have xb2 := C.blk_cell V0.b 2
  have xb3 := C.blk_cell V0.b 3
  have xb4 := C.blk_cell V0.b 4
  have xb5 := C.blk_cell V0.b 5
  simp only [List.getElem?_toArray, List.getElem?_cons_zero, List.getElem?_cons_succ] at xb0 xb1 xb2 xb3 xb4 xb5
  have V0 := Lib.hid V0
  go_enter Try.func4, Try.ntmps4
  go_wp2_with fail
  refine (GA.out _ hbW).mono ?_
  rintro e' w1 ⟨r1, rfl, hr1, b1'⟩
  have b1 := hbW.trans (b1'.mono hbW.size)
  have V1 := Lib.hid (V0.out.below b1')
  clear xa0 xa1 xa2 xa3 xa4 xa5 xb0 xb1 xb2 xb3 xb4 xb5 hW
  have xa0 := C.blk_cell V1.out.a 0
  have xa1 := C.blk_cell V1.out.a 1
  have xa2 := C.blk_cell V1.out.a 2
  have xa3 := C.blk_cell V1.out.a 3
  have xa4 := C.blk_cell V1.out.a 4
  have xa5 := C.blk_cell V1.out.a 5
  simp only [List.getElem?_toArray, List.getElem?_cons_zero, List.getElem?_cons_succ] at xa0 xa1 xa2 xa3 xa4 xa5
  have xb0 := C.blk_cell V1.out.b 0
  have xb1 := C.blk_cell V1.out.b 1
  have xb2 := C.blk_cell V1.out.b 2
  have xb3 := C.blk_cell V1.out.b 3
  have xb4 := C.blk_cell V1.out.b 4
  have xb5 := C.blk_cell V1.out.b 5
  simp only [List.getElem?_toArray, List.getElem?_cons_zero, List.getElem?_cons_succ] at xb0 xb1 xb2 xb3 xb4 xb5
  cases r1 with
  | true =>
    clear GA GB
    go_wp2_with fail
    refine (awake_any _).mono ?_
    rintro e' w2 ⟨rfl, b2⟩
    go_wp2_with fail
    go_ret
    exact ⟨rfl, b1.trans (b2.mono b1.size)⟩
  | false =>
    have hal := Lib.hid (hr1 rfl)
    clear hr1
    go_wp2_with fail
    refine (GB.out _ b1).mono ?_
    rintro e' w2 ⟨r2, rfl, hr2, b2'⟩
    have b2 := b1.trans (b2'.mono b1.size)
    have V2 := Lib.hid (V1.out.below b2')
    clear xa0 xa1 xa2 xa3 xa4 xa5 xb0 xb1 xb2 xb3 xb4 xb5 b2' V0 hbW
    have xa0 := C.blk_cell V2.out.a 0
    have xa1 := C.blk_cell V2.out.a 1
    have xa2 := C.blk_cell V2.out.a 2
    have xa3 := C.blk_cell V2.out.a 3
    have xa4 := C.blk_cell V2.out.a 4
    have xa5 := C.blk_cell V2.out.a 5
    simp only [List.getElem?_toArray, List.getElem?_cons_zero, List.getElem?_cons_succ] at xa0 xa1 xa2 xa3 xa4 xa5
    have xb0 := C.blk_cell V2.out.b 0
    have xb1 := C.blk_cell V2.out.b 1
    have xb2 := C.blk_cell V2.out.b 2
    have xb3 := C.blk_cell V2.out.b 3
    have xb4 := C.blk_cell V2.out.b 4
    have xb5 := C.blk_cell V2.out.b 5
    simp only [List.getElem?_toArray, List.getElem?_cons_zero, List.getElem?_cons_succ] at xb0 xb1 xb2 xb3 xb4 xb5
    cases r2 with
    | true =>
      clear GA GB
      go_wp2_with fail
      refine (awake_any _).mono ?_
      rintro e' w3 ⟨rfl, b3⟩
      go_wp2_with fail
      go_ret
      exact ⟨rfl, b2.trans (b3.mono b2.size)⟩
    | false =>
      have hbl := Lib.hid (hr2 rfl)
      clear hr2 GA GB V1
      have hal := Lib.hid hal.out.1
      have hal10 : ars.length ≤ 10 := hal.out
      clear hbl
      go_wp2_with fail
      refine (FA.out _ b2 hal.out).mono ?_
      rintro e' w3 ⟨⟨o, rfl, ho⟩, b3'⟩
      have b3 := b2.trans (b3'.mono b2.size)
      have V3 := Lib.hid (V2.out.below b3')
      have ho := Lib.hid ho
      clear xa0 xa1 xa2 xa3 xa4 xa5 xb0 xb1 xb2 xb3 xb4 xb5 FA V2 b3' b2 b1 b1'
      cases o with
      | none =>
        have HM : Hid (∀ t e k, f t e k ≤ 1) := Lib.hid ho.out
        clear ho
        dsimp only [C.chv, Option.isSome]
        have c4' : Below w3.heap.size w3 (w3.alloc (.cells #[.int .i64 0, .int .i64 0, .int .i64 0, .int .i64 0, .int .i64 0, .slice none 0 0] 29)) := (Below.refl _ w3).alloc (Nat.le_refl _) _
        have b4 := Lib.hid (b3.trans (c4'.mono b3.size))
        have V4 := Lib.hid (V3.out.below c4')
        have xa0 := C.blk_cell V4.out.a 0
        have xa1 := C.blk_cell V4.out.a 1
        have xa2 := C.blk_cell V4.out.a 2
        have xa3 := C.blk_cell V4.out.a 3
        have xa4 := C.blk_cell V4.out.a 4
        have xa5 := C.blk_cell V4.out.a 5
        simp only [List.getElem?_toArray, List.getElem?_cons_zero, List.getElem?_cons_succ] at xa0 xa1 xa2 xa3 xa4 xa5
        have xb0 := C.blk_cell V4.out.b 0
        have xb1 := C.blk_cell V4.out.b 1
        have xb2 := C.blk_cell V4.out.b 2
        have xb3 := C.blk_cell V4.out.b 3
        have xb4 := C.blk_cell V4.out.b 4
        have xb5 := C.blk_cell V4.out.b 5
        simp only [List.getElem?_toArray, List.getElem?_cons_zero, List.getElem?_cons_succ] at xb0 xb1 xb2 xb3 xb4 xb5
        clear V3 c4'
        go_wp2
        clear xa0 xa1 xa2 xa3 xa4 xa5 xb0 xb1 xb2 xb3 xb4 xb5
        go_loopw [55] (fun v55 wr => ∃ t : Nat, v55 = .int .i64 t ∧ t ≤ ars.length ∧ Hid (C.V2 wr w.heap.size #[.int .i64 aw, .int .i64 ah, .slice aA ars.length ac, .int .i64 ar, .int .i64 aco, .bool av] #[.int .i64 bw, .int .i64 bh, .slice bA brs.length bc, .int .i64 br, .int .i64 bco, .bool bv]) ∧ Hid (Below w.heap.size w wr)) (fun v55 _ => ars.length - (intOf v55).toNat)
        case atStart => exact ⟨0, rfl, Nat.zero_le _, V4, b4⟩
        case round =>
          clear V4 b4
          obtain ⟨t, rfl, ht, hv2, hbr⟩ := hrel
          by_cases htn : t < ars.length
          · skip
            have xa2 := C.blk_cell hv2.out.a 2
            simp only [List.getElem?_toArray, List.getElem?_cons_zero, List.getElem?_cons_succ] at xa2
            have u1 : IntKind.i64.wrap ((t : Int) + 1) = (t : Int) + 1 := by simp [IntKind.wrap, IntKind.bits, IntKind.signed]; omega
            go_wp2
            clear xa2
            go_loopw [9] (fun v9 wr => ∃ e : Int, v9 = .int .i64 e ∧ (t : Int) + 1 ≤ e ∧ e ≤ ars.length + 1 ∧ Hid (C.V2 wr w.heap.size #[.int .i64 aw, .int .i64 ah, .slice aA ars.length ac, .int .i64 ar, .int .i64 aco, .bool av] #[.int .i64 bw, .int .i64 bh, .slice bA brs.length bc, .int .i64 br, .int .i64 bco, .bool bv]) ∧ Hid (Below w.heap.size w wr)) (fun v9 _ => (ars.length + 1 - intOf v9).toNat)
            case atStart => exact ⟨_, rfl, by omega, by omega, hv2, hbr⟩
            case round =>
              clear hv2 hbr
              obtain ⟨e, rfl, he1, he2, hv2, hbr⟩ := hrel
              have xa2 := C.blk_cell hv2.out.a 2
              simp only [List.getElem?_toArray, List.getElem?_cons_zero, List.getElem?_cons_succ] at xa2
              by_cases hen : e ≤ ars.length
              · have u2 : IntKind.i64.wrap ((t : Int) - e) = (t : Int) - e := by simp [IntKind.wrap, IntKind.bits, IntKind.signed]; omega
                have u3 : IntKind.i64.wrap ((t : Int) - e + 1) = (t : Int) - e + 1 := by simp [IntKind.wrap, IntKind.bits, IntKind.signed]; omega
                have u4 : IntKind.i64.wrap (e + 1) = e + 1 := by simp [IntKind.wrap, IntKind.bits, IntKind.signed]; omega
                have u5 : IntKind.i64.wrap (e - (t : Int)) = e - (t : Int) := by simp [IntKind.wrap, IntKind.bits, IntKind.signed]; omega
                go_wp2
                clear xa2
                go_loopw [10] (fun v10 wr => ∃ k : Int, v10 = .int .i64 k ∧ (t : Int) - e + 1 ≤ k ∧ k ≤ e - t ∧ Hid (C.V2 wr w.heap.size #[.int .i64 aw, .int .i64 ah, .slice aA ars.length ac, .int .i64 ar, .int .i64 aco, .bool av] #[.int .i64 bw, .int .i64 bh, .slice bA brs.length bc, .int .i64 br, .int .i64 bco, .bool bv]) ∧ Hid (Below w.heap.size w wr)) (fun v10 _ => (e - t - intOf v10).toNat)
                case atStart => exact ⟨_, rfl, by omega, by omega, hv2, hbr⟩
                case round =>
                  clear hv2 hbr
                  obtain ⟨k, rfl, hk1, hk2, hv2, hbr⟩ := hrel
                  by_cases hke : k < e - t
                  · have u6 : IntKind.i64.wrap (k + 1) = k + 1 := by simp [IntKind.wrap, IntKind.bits, IntKind.signed]; omega
                    by_cases hk0 : k = 0
                    · have hk0' : (k != 0) = false := by simp [hk0]
                      have hk0 := Lib.hid hk0
                      go_wp2
                      go_round
                      case rel => exact ⟨k + 1, by rw [hk0.out]; rfl, by omega, by omega, hv2, hbr⟩
                      case measure => simp [intOf] <;> omega
                    · have hk0' : (k != 0) = true := bne_iff_ne.2 hk0
                      have hm := HM.out t e k
                      have xa0 := C.blk_cell hv2.out.a 0
                      have xa1 := C.blk_cell hv2.out.a 1
                      have xa2 := C.blk_cell hv2.out.a 2
                      have xa3 := C.blk_cell hv2.out.a 3
                      have xa4 := C.blk_cell hv2.out.a 4
                      have xa5 := C.blk_cell hv2.out.a 5
                      simp only [List.getElem?_toArray, List.getElem?_cons_zero, List.getElem?_cons_succ] at xa0 xa1 xa2 xa3 xa4 xa5
                      have xb0 := C.blk_cell hv2.out.b 0
                      have xb1 := C.blk_cell hv2.out.b 1
                      have xb2 := C.blk_cell hv2.out.b 2
                      have xb3 := C.blk_cell hv2.out.b 3
                      have xb4 := C.blk_cell hv2.out.b 4
                      have xb5 := C.blk_cell hv2.out.b 5
                      simp only [List.getElem?_toArray, List.getElem?_cons_zero, List.getElem?_cons_succ] at xb0 xb1 xb2 xb3 xb4 xb5
                      go_wp2_with fail
                      refine (G1.out wr hbr.out hal.out t e k).mono ?_
                      rintro e' w5 ⟨rfl, b5⟩
                      have hv3 := Lib.hid (hv2.out.below b5)
                      have hb3 := Lib.hid (hbr.out.trans (b5.mono hbr.out.size))
                      generalize f t e k = G at *
                      clear xa0 xa1 xa2 xa3 xa4 xa5 xb0 xb1 xb2 xb3 xb4 xb5 hv2 hbr b5
                      go_wp2
                      go_round
                      case rel => exact ⟨k + 1, rfl, by omega, by omega, hv3, hb3⟩
                      case measure => simp [intOf] <;> omega
                  · go_wp2
                    go_round
                    case rel => exact ⟨e + 1, rfl, by omega, by omega, hv2, hbr⟩
                    case measure => simp [intOf] <;> omega
              · go_wp2
                go_round
                case rel => exact ⟨t + 1, by go_num, htn, hv2, hbr⟩
                case measure => simp [intOf] <;> omega
          · obtain rfl : t = ars.length := by omega
            clear hv2
            go_wp2_with fail
            refine (awake_any _).mono ?_
            rintro e' w9 ⟨rfl, b9⟩
            go_wp2_with fail
            go_ret
            exact ⟨rfl, hbr.out.trans (b9.mono hbr.out.size)⟩
      | some m =>
        obtain ⟨mt, me, mk⟩ := m
        have HM : Hid (∀ t e k, f t e k ≤ f mt me mk) := Lib.hid ho.out.2
        have hM2 : 2 ≤ f mt me mk := ho.out.1
        clear ho
        dsimp only [C.chv, Option.isSome]
        have c4' : Below w3.heap.size w3 (w3.alloc (.cells #[.int .i64 2, .int .i64 mt, .int .i64 0, .int .i64 mk, .int .i64 me, .slice none 0 0] 29)) := (Below.refl _ w3).alloc (Nat.le_refl _) _
        have b4 := b3.trans (c4'.mono b3.size)
        have V4 := Lib.hid (V3.out.below c4')
        have H4 := Lib.hid (C.heap_new w3 (.cells #[.int .i64 2, .int .i64 mt, .int .i64 0, .int .i64 mk, .int .i64 me, .slice none 0 0] 29))
        have xa0 := C.blk_cell V4.out.a 0
        have xa1 := C.blk_cell V4.out.a 1
        have xa2 := C.blk_cell V4.out.a 2
        have xa3 := C.blk_cell V4.out.a 3
        have xa4 := C.blk_cell V4.out.a 4
        have xa5 := C.blk_cell V4.out.a 5
        simp only [List.getElem?_toArray, List.getElem?_cons_zero, List.getElem?_cons_succ] at xa0 xa1 xa2 xa3 xa4 xa5
        have xb0 := C.blk_cell V4.out.b 0
        have xb1 := C.blk_cell V4.out.b 1
        have xb2 := C.blk_cell V4.out.b 2
        have xb3 := C.blk_cell V4.out.b 3
        have xb4 := C.blk_cell V4.out.b 4
        have xb5 := C.blk_cell V4.out.b 5
        simp only [List.getElem?_toArray, List.getElem?_cons_zero, List.getElem?_cons_succ] at xb0 xb1 xb2 xb3 xb4 xb5
        clear V3 c4'
        go_wp2_with fail
        refine (G1.out _ b4 hal.out mt me mk).mono ?_
        rintro e' w5 ⟨rfl, b5'⟩
        have b5 := Lib.hid (b4.trans (b5'.mono b4.size))
        have V5 := Lib.hid (V4.out.below b5')
        have H5 := (b5'.block w3.heap.size (Array.getElem?_eq_some_iff.1 H4.out).1).trans H4.out
        clear xa0 xa1 xa2 xa3 xa4 xa5 xb0 xb1 xb2 xb3 xb4 xb5
        obtain ⟨N4, hN4⟩ : ∃ N4, w3.heap.size = N4 := ⟨_, rfl⟩
        rw [hN4] at H5 ⊢
        obtain ⟨M, hM⟩ : ∃ M, f mt me mk = M := ⟨_, rfl⟩
        rw [hM] at hM2 HM ⊢
        have hMd : decide (M < 2) = false := decide_eq_false (by omega)
        clear V4 b5' H4 b4 b3 hN4 hM
        have xa0 := C.blk_cell V5.out.a 0
        have xa1 := C.blk_cell V5.out.a 1
        have xa2 := C.blk_cell V5.out.a 2
        have xa3 := C.blk_cell V5.out.a 3
        have xa4 := C.blk_cell V5.out.a 4
        have xa5 := C.blk_cell V5.out.a 5
        simp only [List.getElem?_toArray, List.getElem?_cons_zero, List.getElem?_cons_succ] at xa0 xa1 xa2 xa3 xa4 xa5
        have xb0 := C.blk_cell V5.out.b 0
        have xb1 := C.blk_cell V5.out.b 1
        have xb2 := C.blk_cell V5.out.b 2
        have xb3 := C.blk_cell V5.out.b 3
        have xb4 := C.blk_cell V5.out.b 4
        have xb5 := C.blk_cell V5.out.b 5
        simp only [List.getElem?_toArray, List.getElem?_cons_zero, List.getElem?_cons_succ] at xb0 xb1 xb2 xb3 xb4 xb5
        have y0 := C.blk_cell H5 0
        have y1 := C.blk_cell H5 1
        have y2 := C.blk_cell H5 2
        have y3 := C.blk_cell H5 3
        have y4 := C.blk_cell H5 4
        have y5 := C.blk_cell H5 5
        simp only [List.getElem?_toArray, List.getElem?_cons_zero, List.getElem?_cons_succ] at y0 y1 y2 y3 y4 y5
        clear H5
        go_wp2
        clear xa0 xa1 xa2 xa3 xa4 xa5 xb0 xb1 xb2 xb3 xb4 xb5
        go_loopw [55] (fun v55 wr => ∃ t : Nat, v55 = .int .i64 t ∧ t ≤ ars.length ∧ Hid (C.V2 wr w.heap.size #[.int .i64 aw, .int .i64 ah, .slice aA ars.length ac, .int .i64 ar, .int .i64 aco, .bool av] #[.int .i64 bw, .int .i64 bh, .slice bA brs.length bc, .int .i64 br, .int .i64 bco, .bool bv]) ∧ Hid (Below w.heap.size w wr)) (fun v55 _ => ars.length - (intOf v55).toNat)
        case atStart => exact ⟨0, rfl, Nat.zero_le _, V5, b5⟩
        case round =>
          clear V5 b5
          obtain ⟨t, rfl, ht, hv2, hbr⟩ := hrel
          by_cases htn : t < ars.length
          · skip
            have xa2 := C.blk_cell hv2.out.a 2
            simp only [List.getElem?_toArray, List.getElem?_cons_zero, List.getElem?_cons_succ] at xa2
            have u1 : IntKind.i64.wrap ((t : Int) + 1) = (t : Int) + 1 := by simp [IntKind.wrap, IntKind.bits, IntKind.signed]; omega
            go_wp2
            clear xa2
            go_loopw [9] (fun v9 wr => ∃ e : Int, v9 = .int .i64 e ∧ (t : Int) + 1 ≤ e ∧ e ≤ ars.length + 1 ∧ Hid (C.V2 wr w.heap.size #[.int .i64 aw, .int .i64 ah, .slice aA ars.length ac, .int .i64 ar, .int .i64 aco, .bool av] #[.int .i64 bw, .int .i64 bh, .slice bA brs.length bc, .int .i64 br, .int .i64 bco, .bool bv]) ∧ Hid (Below w.heap.size w wr)) (fun v9 _ => (ars.length + 1 - intOf v9).toNat)
            case atStart => exact ⟨_, rfl, by omega, by omega, hv2, hbr⟩
            case round =>
              clear hv2 hbr
              obtain ⟨e, rfl, he1, he2, hv2, hbr⟩ := hrel
              have xa2 := C.blk_cell hv2.out.a 2
              simp only [List.getElem?_toArray, List.getElem?_cons_zero, List.getElem?_cons_succ] at xa2
              by_cases hen : e ≤ ars.length
              · have u2 : IntKind.i64.wrap ((t : Int) - e) = (t : Int) - e := by simp [IntKind.wrap, IntKind.bits, IntKind.signed]; omega
                have u3 : IntKind.i64.wrap ((t : Int) - e + 1) = (t : Int) - e + 1 := by simp [IntKind.wrap, IntKind.bits, IntKind.signed]; omega
                have u4 : IntKind.i64.wrap (e + 1) = e + 1 := by simp [IntKind.wrap, IntKind.bits, IntKind.signed]; omega
                have u5 : IntKind.i64.wrap (e - (t : Int)) = e - (t : Int) := by simp [IntKind.wrap, IntKind.bits, IntKind.signed]; omega
                go_wp2
                clear xa2
                go_loopw [10] (fun v10 wr => ∃ k : Int, v10 = .int .i64 k ∧ (t : Int) - e + 1 ≤ k ∧ k ≤ e - t ∧ Hid (C.V2 wr w.heap.size #[.int .i64 aw, .int .i64 ah, .slice aA ars.length ac, .int .i64 ar, .int .i64 aco, .bool av] #[.int .i64 bw, .int .i64 bh, .slice bA brs.length bc, .int .i64 br, .int .i64 bco, .bool bv]) ∧ Hid (Below w.heap.size w wr)) (fun v10 _ => (e - t - intOf v10).toNat)
                case atStart => exact ⟨_, rfl, by omega, by omega, hv2, hbr⟩
                case round =>
                  clear hv2 hbr
                  obtain ⟨k, rfl, hk1, hk2, hv2, hbr⟩ := hrel
                  by_cases hke : k < e - t
                  · have u6 : IntKind.i64.wrap (k + 1) = k + 1 := by simp [IntKind.wrap, IntKind.bits, IntKind.signed]; omega
                    by_cases hk0 : k = 0
                    · have hk0' : (k != 0) = false := by simp [hk0]
                      have hk0 := Lib.hid hk0
                      go_wp2
                      go_round
                      case rel => exact ⟨k + 1, by rw [hk0.out]; rfl, by omega, by omega, hv2, hbr⟩
                      case measure => simp [intOf] <;> omega
                    · have hk0' : (k != 0) = true := bne_iff_ne.2 hk0
                      have hm := HM.out t e k
                      have xa0 := C.blk_cell hv2.out.a 0
                      have xa1 := C.blk_cell hv2.out.a 1
                      have xa2 := C.blk_cell hv2.out.a 2
                      have xa3 := C.blk_cell hv2.out.a 3
                      have xa4 := C.blk_cell hv2.out.a 4
                      have xa5 := C.blk_cell hv2.out.a 5
                      simp only [List.getElem?_toArray, List.getElem?_cons_zero, List.getElem?_cons_succ] at xa0 xa1 xa2 xa3 xa4 xa5
                      have xb0 := C.blk_cell hv2.out.b 0
                      have xb1 := C.blk_cell hv2.out.b 1
                      have xb2 := C.blk_cell hv2.out.b 2
                      have xb3 := C.blk_cell hv2.out.b 3
                      have xb4 := C.blk_cell hv2.out.b 4
                      have xb5 := C.blk_cell hv2.out.b 5
                      simp only [List.getElem?_toArray, List.getElem?_cons_zero, List.getElem?_cons_succ] at xb0 xb1 xb2 xb3 xb4 xb5
                      go_wp2_with fail
                      refine (G1.out wr hbr.out hal.out t e k).mono ?_
                      rintro e' w5 ⟨rfl, b5⟩
                      have hv3 := Lib.hid (hv2.out.below b5)
                      have hb3 := Lib.hid (hbr.out.trans (b5.mono hbr.out.size))
                      generalize f t e k = G at *
                      clear xa0 xa1 xa2 xa3 xa4 xa5 xb0 xb1 xb2 xb3 xb4 xb5 hv2 hbr b5
                      go_wp2
                      go_round
                      case rel => exact ⟨k + 1, rfl, by omega, by omega, hv3, hb3⟩
                      case measure => simp [intOf] <;> omega
                  · go_wp2
                    go_round
                    case rel => exact ⟨e + 1, rfl, by omega, by omega, hv2, hbr⟩
                    case measure => simp [intOf] <;> omega
              · go_wp2
                go_round
                case rel => exact ⟨t + 1, by go_num, htn, hv2, hbr⟩
                case measure => simp [intOf] <;> omega
          · obtain rfl : t = ars.length := by omega
            clear hv2
            go_wp2_with fail
            refine (awake_any _).mono ?_
            rintro e' w9 ⟨rfl, b9⟩
            go_wp2_with fail
            go_ret
            exact ⟨rfl, hbr.out.trans (b9.mono hbr.out.size)⟩
end Go.Proofs.Ythohninbelhddaa
