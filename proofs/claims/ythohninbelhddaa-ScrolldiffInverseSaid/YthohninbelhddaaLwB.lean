/-
  The statements of layer 18: ScrolldiffInverse. By an AI agent.
-/
import Derived.Test.YthohninbelhddaaLwA
namespace Go.Proofs.Ythohninbelhddaa
open Go.RowKit

attribute [local go_sem] guard44

set_option maxRecDepth 100000 in
set_option maxHeartbeats 16000000 in
theorem inverselaw_any (B : Nat) (a b : C.VR) (t e k kk : Int) (hku : IntKind.i64.wrap (-k) = kk) (hkk : kk = -k ∨ (kk = k ∧ k = -9223372036854775808)) (w : World) (ha : C.Rv w B a.A a.rs) (hb : C.Rv w B b.A b.rs) (hB : B ≤ w.heap.size) :
    Calls Try.prog 5 #[a.val, b.val, .int .i64 t, .int .i64 e, .int .i64 k] w fun e' w' => e' = .returned (.bool true) ∧ Below w.heap.size w w' := by
  have GA : Hid (∀ w', Below w.heap.size w w' → Calls Try.prog 11 #[a.val] w' fun e w'' => C.Grt a.rs.length w' w'' e) := Lib.hid (fun w' hb' => great_any B a w' (ha.below hb' hB) (Nat.le_trans hB hb'.size))
  have GB : Hid (∀ w', Below w.heap.size w w' → Calls Try.prog 11 #[b.val] w' fun e w'' => C.Grt b.rs.length w' w'' e) := Lib.hid (fun w' hb' => great_any B b w' (hb.below hb' hB) (Nat.le_trans hB hb'.size))
  have UK := Lib.hid hku
  have KK : Hid (kk = -k ∨ (kk = k ∧ k = -9223372036854775808)) := Lib.hid hkk
  have INV := Lib.hid (fun hl => C.inv_law a b t e k kk hkk hl)
  have GL := Lib.hid (fun hl => And.intro (C.gn_le a b t e k hl) (fun hl' => C.gn_le b a t e kk hl'))
  have G1 : Hid (∀ w', Below w.heap.size w w' → a.rs.length ≤ 10 → Calls Try.prog 16 #[a.val, b.val, .int .i64 t, .int .i64 e, .int .i64 k] w' fun e' w'' => e' = .returned (.int .i64 (C.gn a b t e k)) ∧ Below w'.heap.size w' w'') := Lib.hid (fun w' hb' hl => Gain_any B a b t e k w' (ha.below hb' hB) (hb.below hb' hB) (Nat.le_trans hB hb'.size) (by omega))
  have G2 : Hid (∀ w', Below w.heap.size w w' → b.rs.length ≤ 10 → Calls Try.prog 16 #[b.val, a.val, .int .i64 t, .int .i64 e, .int .i64 kk] w' fun e' w'' => e' = .returned (.int .i64 (C.gn b a t e kk)) ∧ Below w'.heap.size w' w'') := Lib.hid (fun w' hb' hl => Gain_any B b a t e kk w' (hb.below hb' hB) (ha.below hb' hB) (Nat.le_trans hB hb'.size) (by omega))
  generalize C.gn a b t e k = G at *
  generalize C.gn b a t e kk = H at *
  obtain ⟨aw, ah, aA, ac, ars, ar, aco, av⟩ := a
  obtain ⟨bw, bh, bA, bc, brs, br, bco, bv⟩ := b
  dsimp only [C.VR.val] at *
  clear ha hb
  obtain ⟨W, hW⟩ : ∃ W, (w.alloc (.cells #[.int .i64 aw, .int .i64 ah, .slice aA ars.length ac, .int .i64 ar, .int .i64 aco, .bool av] 24)).alloc (.cells #[.int .i64 bw, .int .i64 bh, .slice bA brs.length bc, .int .i64 br, .int .i64 bco, .bool bv] 24) = W := ⟨_, rfl⟩
  have hbW : Below w.heap.size w W := by rw [← hW]; exact ((Below.refl _ w).alloc (Nat.le_refl _) _).alloc (by simp) _
  have V0 : C.V2 W w.heap.size #[.int .i64 aw, .int .i64 ah, .slice aA ars.length ac, .int .i64 ar, .int .i64 aco, .bool av] #[.int .i64 bw, .int .i64 bh, .slice bA brs.length bc, .int .i64 br, .int .i64 bco, .bool bv] := by rw [← hW]; exact C.V2.new w _ _
  have xa0 := C.blk_cell V0.a 0
  have xa1 := C.blk_cell V0.a 1
  have xa2 := C.blk_cell V0.a 2
  have xa3 := C.blk_cell V0.a 3
  have xa4 := C.blk_cell V0.a 4
  have xa5 := C.blk_cell V0.a 5
  simp only [List.getElem?_toArray, List.getElem?_cons_zero, List.getElem?_cons_succ] at xa0 xa1 xa2 xa3 xa4 xa5
  have xb0 := C.blk_cell V0.b 0
  have xb1 := C.blk_cell V0.b 1
  have xb2 := C.blk_cell V0.b 2
  have xb3 := C.blk_cell V0.b 3
  have xb4 := C.blk_cell V0.b 4
  have xb5 := C.blk_cell V0.b 5
  simp only [List.getElem?_toArray, List.getElem?_cons_zero, List.getElem?_cons_succ] at xb0 xb1 xb2 xb3 xb4 xb5
  have V0 := Lib.hid V0
  go_enter Try.func5, Try.ntmps5
  go_wp2_with fail
  refine (GA.out _ hbW).mono ?_
  rintro e' w1 ⟨r1, rfl, hr1, b1'⟩
  have b1 := hbW.trans (b1'.mono hbW.size)
  have V1 := Lib.hid (V0.out.below b1')
  clear xa0 xa1 xa2 xa3 xa4 xa5 xb0 xb1 xb2 xb3 xb4 xb5 hW
  have xa0 := C.blk_cell V1.out.a 0
  have xa1 := C.blk_cell V1.out.a 1
  have xa2 := C.blk_cell V1.out.a 2
  have xa3 := C.blk_cell V1.out.a 3
  have xa4 := C.blk_cell V1.out.a 4
  have xa5 := C.blk_cell V1.out.a 5
  simp only [List.getElem?_toArray, List.getElem?_cons_zero, List.getElem?_cons_succ] at xa0 xa1 xa2 xa3 xa4 xa5
  have xb0 := C.blk_cell V1.out.b 0
  have xb1 := C.blk_cell V1.out.b 1
  have xb2 := C.blk_cell V1.out.b 2
  have xb3 := C.blk_cell V1.out.b 3
  have xb4 := C.blk_cell V1.out.b 4
  have xb5 := C.blk_cell V1.out.b 5
  simp only [List.getElem?_toArray, List.getElem?_cons_zero, List.getElem?_cons_succ] at xb0 xb1 xb2 xb3 xb4 xb5
  cases r1 with
  | true =>
    clear GA GB
    go_wp2_with fail
    refine (awake_any _).mono ?_
    rintro e' w2 ⟨rfl, b2⟩
    go_wp2_with fail
    go_ret
    exact ⟨rfl, b1.trans (b2.mono b1.size)⟩
  | false =>
    have hal := Lib.hid (hr1 rfl)
    clear hr1
    go_wp2_with fail
    refine (GB.out _ b1).mono ?_
    rintro e' w2 ⟨r2, rfl, hr2, b2'⟩
    have b2 := b1.trans (b2'.mono b1.size)
    have V2 := Lib.hid (V1.out.below b2')
    clear xa0 xa1 xa2 xa3 xa4 xa5 xb0 xb1 xb2 xb3 xb4 xb5 b2' V0 hbW
    have xa0 := C.blk_cell V2.out.a 0
    have xa1 := C.blk_cell V2.out.a 1
    have xa2 := C.blk_cell V2.out.a 2
    have xa3 := C.blk_cell V2.out.a 3
    have xa4 := C.blk_cell V2.out.a 4
    have xa5 := C.blk_cell V2.out.a 5
    simp only [List.getElem?_toArray, List.getElem?_cons_zero, List.getElem?_cons_succ] at xa0 xa1 xa2 xa3 xa4 xa5
    have xb0 := C.blk_cell V2.out.b 0
    have xb1 := C.blk_cell V2.out.b 1
    have xb2 := C.blk_cell V2.out.b 2
    have xb3 := C.blk_cell V2.out.b 3
    have xb4 := C.blk_cell V2.out.b 4
    have xb5 := C.blk_cell V2.out.b 5
    simp only [List.getElem?_toArray, List.getElem?_cons_zero, List.getElem?_cons_succ] at xb0 xb1 xb2 xb3 xb4 xb5
    cases r2 with
    | true =>
      clear GA GB
      go_wp2_with fail
      refine (awake_any _).mono ?_
      rintro e' w3 ⟨rfl, b3⟩
      go_wp2_with fail
      go_ret
      exact ⟨rfl, b2.trans (b3.mono b2.size)⟩
    | false =>
      have hbl := Lib.hid (hr2 rfl)
      clear hr2 GA GB V1
      have UK := UK.out
      have POS := Lib.hid (fun w' => refposs_any ars.length t e k w' (by have := hal.out; simp only [maxLen]; omega))
      have INV := Lib.hid (INV.out (by have := hal.out; omega))
      have GL1 := (GL.out (by have := hal.out; omega)).1
      have GL2 := (GL.out (by have := hal.out; omega)).2 (by have := hbl.out; omega)
      clear GL
      have MK : Hid (∀ w' : World, C.V2 w' w.heap.size #[.int .i64 aw, .int .i64 ah, .slice aA ars.length ac, .int .i64 ar, .int .i64 aco, .bool av] #[.int .i64 bw, .int .i64 bh, .slice bA brs.length bc, .int .i64 br, .int .i64 bco, .bool bv] → Below w.heap.size w w' → w'.cell? ⟨w.heap.size, 0, none⟩ = some (.int .i64 aw) ∧ w'.cell? ⟨w.heap.size, 1, none⟩ = some (.int .i64 ah) ∧ w'.cell? ⟨w.heap.size, 2, none⟩ = some (.slice aA ars.length ac) ∧ w'.cell? ⟨w.heap.size, 3, none⟩ = some (.int .i64 ar) ∧ w'.cell? ⟨w.heap.size, 4, none⟩ = some (.int .i64 aco) ∧ w'.cell? ⟨w.heap.size, 5, none⟩ = some (.bool av) ∧ w'.cell? ⟨w.heap.size + 1, 0, none⟩ = some (.int .i64 bw) ∧ w'.cell? ⟨w.heap.size + 1, 1, none⟩ = some (.int .i64 bh) ∧ w'.cell? ⟨w.heap.size + 1, 2, none⟩ = some (.slice bA brs.length bc) ∧ w'.cell? ⟨w.heap.size + 1, 3, none⟩ = some (.int .i64 br) ∧ w'.cell? ⟨w.heap.size + 1, 4, none⟩ = some (.int .i64 bco) ∧ w'.cell? ⟨w.heap.size + 1, 5, none⟩ = some (.bool bv) ∧ C.V2 w' w.heap.size #[.int .i64 aw, .int .i64 ah, .slice aA ars.length ac, .int .i64 ar, .int .i64 aco, .bool av] #[.int .i64 bw, .int .i64 bh, .slice bA brs.length bc, .int .i64 br, .int .i64 bco, .bool bv] ∧ Below w.heap.size w w') := Lib.hid (fun w' h hb => by
        have xa0 := C.blk_cell h.a 0
        have xa1 := C.blk_cell h.a 1
        have xa2 := C.blk_cell h.a 2
        have xa3 := C.blk_cell h.a 3
        have xa4 := C.blk_cell h.a 4
        have xa5 := C.blk_cell h.a 5
        simp only [List.getElem?_toArray, List.getElem?_cons_zero, List.getElem?_cons_succ] at xa0 xa1 xa2 xa3 xa4 xa5
        have xb0 := C.blk_cell h.b 0
        have xb1 := C.blk_cell h.b 1
        have xb2 := C.blk_cell h.b 2
        have xb3 := C.blk_cell h.b 3
        have xb4 := C.blk_cell h.b 4
        have xb5 := C.blk_cell h.b 5
        simp only [List.getElem?_toArray, List.getElem?_cons_zero, List.getElem?_cons_succ] at xb0 xb1 xb2 xb3 xb4 xb5
        exact ⟨xa0, xa1, xa2, xa3, xa4, xa5, xb0, xb1, xb2, xb3, xb4, xb5, h, hb⟩)
      have S0 : w2.drew.cell? ⟨w.heap.size, 0, none⟩ = some (.int .i64 aw) ∧ w2.drew.cell? ⟨w.heap.size, 1, none⟩ = some (.int .i64 ah) ∧ w2.drew.cell? ⟨w.heap.size, 2, none⟩ = some (.slice aA ars.length ac) ∧ w2.drew.cell? ⟨w.heap.size, 3, none⟩ = some (.int .i64 ar) ∧ w2.drew.cell? ⟨w.heap.size, 4, none⟩ = some (.int .i64 aco) ∧ w2.drew.cell? ⟨w.heap.size, 5, none⟩ = some (.bool av) ∧ w2.drew.cell? ⟨w.heap.size + 1, 0, none⟩ = some (.int .i64 bw) ∧ w2.drew.cell? ⟨w.heap.size + 1, 1, none⟩ = some (.int .i64 bh) ∧ w2.drew.cell? ⟨w.heap.size + 1, 2, none⟩ = some (.slice bA brs.length bc) ∧ w2.drew.cell? ⟨w.heap.size + 1, 3, none⟩ = some (.int .i64 br) ∧ w2.drew.cell? ⟨w.heap.size + 1, 4, none⟩ = some (.int .i64 bco) ∧ w2.drew.cell? ⟨w.heap.size + 1, 5, none⟩ = some (.bool bv) ∧ C.V2 w2.drew w.heap.size #[.int .i64 aw, .int .i64 ah, .slice aA ars.length ac, .int .i64 ar, .int .i64 aco, .bool av] #[.int .i64 bw, .int .i64 bh, .slice bA brs.length bc, .int .i64 br, .int .i64 bco, .bool bv] ∧ Below w.heap.size w w2.drew := MK.out w2.drew ⟨V2.out.a, V2.out.b⟩ (below_drewN b2 1)
      have K1 : Hid (∀ w' : World, (w'.cell? ⟨w.heap.size, 0, none⟩ = some (.int .i64 aw) ∧ w'.cell? ⟨w.heap.size, 1, none⟩ = some (.int .i64 ah) ∧ w'.cell? ⟨w.heap.size, 2, none⟩ = some (.slice aA ars.length ac) ∧ w'.cell? ⟨w.heap.size, 3, none⟩ = some (.int .i64 ar) ∧ w'.cell? ⟨w.heap.size, 4, none⟩ = some (.int .i64 aco) ∧ w'.cell? ⟨w.heap.size, 5, none⟩ = some (.bool av) ∧ w'.cell? ⟨w.heap.size + 1, 0, none⟩ = some (.int .i64 bw) ∧ w'.cell? ⟨w.heap.size + 1, 1, none⟩ = some (.int .i64 bh) ∧ w'.cell? ⟨w.heap.size + 1, 2, none⟩ = some (.slice bA brs.length bc) ∧ w'.cell? ⟨w.heap.size + 1, 3, none⟩ = some (.int .i64 br) ∧ w'.cell? ⟨w.heap.size + 1, 4, none⟩ = some (.int .i64 bco) ∧ w'.cell? ⟨w.heap.size + 1, 5, none⟩ = some (.bool bv) ∧ C.V2 w' w.heap.size #[.int .i64 aw, .int .i64 ah, .slice aA ars.length ac, .int .i64 ar, .int .i64 aco, .bool av] #[.int .i64 bw, .int .i64 bh, .slice bA brs.length bc, .int .i64 br, .int .i64 bco, .bool bv] ∧ Below w.heap.size w w') → Calls Try.prog 16 #[.agg #[.int .i64 aw, .int .i64 ah, .slice aA ars.length ac, .int .i64 ar, .int .i64 aco, .bool av], .agg #[.int .i64 bw, .int .i64 bh, .slice bA brs.length bc, .int .i64 br, .int .i64 bco, .bool bv], .int .i64 t, .int .i64 e, .int .i64 k] w' fun e' w'' => e' = .returned (.int .i64 G) ∧ (w''.cell? ⟨w.heap.size, 0, none⟩ = some (.int .i64 aw) ∧ w''.cell? ⟨w.heap.size, 1, none⟩ = some (.int .i64 ah) ∧ w''.cell? ⟨w.heap.size, 2, none⟩ = some (.slice aA ars.length ac) ∧ w''.cell? ⟨w.heap.size, 3, none⟩ = some (.int .i64 ar) ∧ w''.cell? ⟨w.heap.size, 4, none⟩ = some (.int .i64 aco) ∧ w''.cell? ⟨w.heap.size, 5, none⟩ = some (.bool av) ∧ w''.cell? ⟨w.heap.size + 1, 0, none⟩ = some (.int .i64 bw) ∧ w''.cell? ⟨w.heap.size + 1, 1, none⟩ = some (.int .i64 bh) ∧ w''.cell? ⟨w.heap.size + 1, 2, none⟩ = some (.slice bA brs.length bc) ∧ w''.cell? ⟨w.heap.size + 1, 3, none⟩ = some (.int .i64 br) ∧ w''.cell? ⟨w.heap.size + 1, 4, none⟩ = some (.int .i64 bco) ∧ w''.cell? ⟨w.heap.size + 1, 5, none⟩ = some (.bool bv) ∧ C.V2 w'' w.heap.size #[.int .i64 aw, .int .i64 ah, .slice aA ars.length ac, .int .i64 ar, .int .i64 aco, .bool av] #[.int .i64 bw, .int .i64 bh, .slice bA brs.length bc, .int .i64 br, .int .i64 bco, .bool bv] ∧ Below w.heap.size w w'')) := Lib.hid (fun w' h => by
        obtain ⟨-, -, -, -, -, -, -, -, -, -, -, -, h1, h2⟩ := h
        refine (G1.out w' h2 hal.out).mono ?_
        rintro e' w'' ⟨rfl, h3⟩
        exact ⟨rfl, MK.out w'' (h1.below h3) (h2.trans (h3.mono h2.size))⟩)
      have K2 : Hid (∀ w' : World, (w'.cell? ⟨w.heap.size, 0, none⟩ = some (.int .i64 aw) ∧ w'.cell? ⟨w.heap.size, 1, none⟩ = some (.int .i64 ah) ∧ w'.cell? ⟨w.heap.size, 2, none⟩ = some (.slice aA ars.length ac) ∧ w'.cell? ⟨w.heap.size, 3, none⟩ = some (.int .i64 ar) ∧ w'.cell? ⟨w.heap.size, 4, none⟩ = some (.int .i64 aco) ∧ w'.cell? ⟨w.heap.size, 5, none⟩ = some (.bool av) ∧ w'.cell? ⟨w.heap.size + 1, 0, none⟩ = some (.int .i64 bw) ∧ w'.cell? ⟨w.heap.size + 1, 1, none⟩ = some (.int .i64 bh) ∧ w'.cell? ⟨w.heap.size + 1, 2, none⟩ = some (.slice bA brs.length bc) ∧ w'.cell? ⟨w.heap.size + 1, 3, none⟩ = some (.int .i64 br) ∧ w'.cell? ⟨w.heap.size + 1, 4, none⟩ = some (.int .i64 bco) ∧ w'.cell? ⟨w.heap.size + 1, 5, none⟩ = some (.bool bv) ∧ C.V2 w' w.heap.size #[.int .i64 aw, .int .i64 ah, .slice aA ars.length ac, .int .i64 ar, .int .i64 aco, .bool av] #[.int .i64 bw, .int .i64 bh, .slice bA brs.length bc, .int .i64 br, .int .i64 bco, .bool bv] ∧ Below w.heap.size w w') → Calls Try.prog 16 #[.agg #[.int .i64 bw, .int .i64 bh, .slice bA brs.length bc, .int .i64 br, .int .i64 bco, .bool bv], .agg #[.int .i64 aw, .int .i64 ah, .slice aA ars.length ac, .int .i64 ar, .int .i64 aco, .bool av], .int .i64 t, .int .i64 e, .int .i64 kk] w' fun e' w'' => e' = .returned (.int .i64 H) ∧ (w''.cell? ⟨w.heap.size, 0, none⟩ = some (.int .i64 aw) ∧ w''.cell? ⟨w.heap.size, 1, none⟩ = some (.int .i64 ah) ∧ w''.cell? ⟨w.heap.size, 2, none⟩ = some (.slice aA ars.length ac) ∧ w''.cell? ⟨w.heap.size, 3, none⟩ = some (.int .i64 ar) ∧ w''.cell? ⟨w.heap.size, 4, none⟩ = some (.int .i64 aco) ∧ w''.cell? ⟨w.heap.size, 5, none⟩ = some (.bool av) ∧ w''.cell? ⟨w.heap.size + 1, 0, none⟩ = some (.int .i64 bw) ∧ w''.cell? ⟨w.heap.size + 1, 1, none⟩ = some (.int .i64 bh) ∧ w''.cell? ⟨w.heap.size + 1, 2, none⟩ = some (.slice bA brs.length bc) ∧ w''.cell? ⟨w.heap.size + 1, 3, none⟩ = some (.int .i64 br) ∧ w''.cell? ⟨w.heap.size + 1, 4, none⟩ = some (.int .i64 bco) ∧ w''.cell? ⟨w.heap.size + 1, 5, none⟩ = some (.bool bv) ∧ C.V2 w'' w.heap.size #[.int .i64 aw, .int .i64 ah, .slice aA ars.length ac, .int .i64 ar, .int .i64 aco, .bool av] #[.int .i64 bw, .int .i64 bh, .slice bA brs.length bc, .int .i64 br, .int .i64 bco, .bool bv] ∧ Below w.heap.size w w'')) := Lib.hid (fun w' h => by
        obtain ⟨-, -, -, -, -, -, -, -, -, -, -, -, h1, h2⟩ := h
        refine (G2.out w' h2 hbl.out).mono ?_
        rintro e' w'' ⟨rfl, h3⟩
        exact ⟨rfl, MK.out w'' (h1.below h3) (h2.trans (h3.mono h2.size))⟩)
      clear G1 G2 MK V2 b2
      go_wp2_with fail
      go_region_held3 (fun w' => w'.cell? ⟨w.heap.size, 0, none⟩ = some (.int .i64 aw) ∧ w'.cell? ⟨w.heap.size, 1, none⟩ = some (.int .i64 ah) ∧ w'.cell? ⟨w.heap.size, 2, none⟩ = some (.slice aA ars.length ac) ∧ w'.cell? ⟨w.heap.size, 3, none⟩ = some (.int .i64 ar) ∧ w'.cell? ⟨w.heap.size, 4, none⟩ = some (.int .i64 aco) ∧ w'.cell? ⟨w.heap.size, 5, none⟩ = some (.bool av) ∧ w'.cell? ⟨w.heap.size + 1, 0, none⟩ = some (.int .i64 bw) ∧ w'.cell? ⟨w.heap.size + 1, 1, none⟩ = some (.int .i64 bh) ∧ w'.cell? ⟨w.heap.size + 1, 2, none⟩ = some (.slice bA brs.length bc) ∧ w'.cell? ⟨w.heap.size + 1, 3, none⟩ = some (.int .i64 br) ∧ w'.cell? ⟨w.heap.size + 1, 4, none⟩ = some (.int .i64 bco) ∧ w'.cell? ⟨w.heap.size + 1, 5, none⟩ = some (.bool bv) ∧ C.V2 w' w.heap.size #[.int .i64 aw, .int .i64 ah, .slice aA ars.length ac, .int .i64 ar, .int .i64 aco, .bool av] #[.int .i64 bw, .int .i64 bh, .slice bA brs.length bc, .int .i64 br, .int .i64 bco, .bool bv] ∧ Below w.heap.size w w') (first | assumption | exact S0) (first | (go_at_call 16; (with_reducible refine (K1.out _ ?_).mono ?_); (first | assumption | exact S0); rintro e' w' ⟨rfl, hS⟩) | (go_at_call 16; (with_reducible refine (K2.out _ ?_).mono ?_); (first | assumption | exact S0); rintro e' w' ⟨rfl, hS⟩))
      obtain ⟨z0, z1, z2, z3, z4, z5, y0, y1, y2, y3, y4, y5, -, hbz⟩ := hS
      have hbz := Lib.hid hbz
      clear K1 K2 S0 hS xa0 xa1 xa2 xa3 xa4 xa5 xb0 xb1 xb2 xb3 xb4 xb5
      go_wp2_with fail
      refine (POS.out _).mono ?_
      rintro e' w5 ⟨rfl, rfl⟩
      cases hp : V.possB ars.length t e k
      · have i0 := INV.out
        rw [if_neg (of_decide_eq_false hp)] at i0
        obtain ⟨i1, i2⟩ := i0
        clear INV POS hp
        go_wp2_with fail
        refine (awake_any _).mono ?_
        rintro e' w6 ⟨rfl, b6⟩
        go_wp2_with fail
        go_ret
        exact ⟨rfl, hbz.out.trans (b6.mono hbz.out.size)⟩
      · have i0 := INV.out
        have hpp := of_decide_eq_true hp
        rw [if_pos hpp] at i0
        obtain ⟨i1, i2⟩ := i0
        have hk' : kk = -k := by
          rcases KK.out with h | ⟨_, h⟩
          · exact h
          · exfalso
            have := hal.out
            obtain ⟨p1, p2, p3, p4, p5, p6⟩ := hpp
            omega
        by_cases hmx : kk ≤ k
        · have g1 : G - H ≤ k := by omega
          have g2 : H - G ≤ k := by omega
          clear INV POS hp hpp hk' i1 i2 KK
          go_wp2_with fail
          refine (awake_any _).mono ?_
          rintro e' w6 ⟨rfl, b6⟩
          go_wp2_with fail
          go_ret
          exact ⟨rfl, hbz.out.trans (b6.mono hbz.out.size)⟩
        · have g1 : G - H ≤ kk := by omega
          have g2 : H - G ≤ kk := by omega
          clear INV POS hp hpp hk' i1 i2 KK
          go_wp2_with fail
          refine (awake_any _).mono ?_
          rintro e' w6 ⟨rfl, b6⟩
          go_wp2_with fail
          go_ret
          exact ⟨rfl, hbz.out.trans (b6.mono hbz.out.size)⟩

theorem inverse_any (B : Nat) (a b : C.VR) (t e k : Int) (w : World) (ha : C.Rv w B a.A a.rs) (hb : C.Rv w B b.A b.rs) (hB : B ≤ w.heap.size) (_ : -9223372036854775808 ≤ t) (_ : t ≤ 9223372036854775807) (_ : -9223372036854775808 ≤ e) (_ : e ≤ 9223372036854775807) (hk1 : -9223372036854775808 ≤ k) (hk2 : k ≤ 9223372036854775807) :
    Calls Try.prog 5 #[a.val, b.val, .int .i64 t, .int .i64 e, .int .i64 k] w fun e' w' => e' = .returned (.bool true) ∧ Below w.heap.size w w' := by
  by_cases h : k = -9223372036854775808
  · exact inverselaw_any B a b t e k k (by subst h; rfl) (.inr ⟨rfl, h⟩) w ha hb hB
  · exact inverselaw_any B a b t e k (-k) (by simp [IntKind.wrap, IntKind.bits, IntKind.signed]; omega) (.inl rfl) w ha hb hB
end Go.Proofs.Ythohninbelhddaa
