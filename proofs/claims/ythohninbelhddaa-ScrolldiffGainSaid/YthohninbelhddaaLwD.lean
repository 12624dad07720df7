/-
  The statements of layer 18: ScrolldiffGain. By an AI agent.
-/
import Derived.Deep.RegionHeld3
import Derived.Test.YthohninbelhddaaRfi
import Derived.Test.YthohninbelhddaaGr2
namespace Go.Proofs.Ythohninbelhddaa
open Go.RowKit

attribute [local go_sem] guard44

def C.rowsL (g : List (List C.Gl)) (t e k : Int) : List (List C.Gl) := if V.possB g.length t e k = true then V.rows g t e k else []
def C.rowsE (g : List (List C.Gl)) (t e k : Int) : Int := if V.possB g.length t e k = true then 0 else 2
theorem C.Rv.nil (w : World) (B : Nat) (A : Option Addr) : C.Rv w B A [] := ⟨⟨by simp, fun h => absurd h (by simp)⟩, fun r h => absurd h (by simp), by decide⟩
theorem C.RowsOut.all {g : List (List C.Gl)} {t e k : Int} {w w' : World} {x : Ending} (h : C.RowsOut g t e k w w' x) :
    ∃ A c, ∃ rs : List (Option Addr × Nat × List C.Gl), x = .returned (.tuple #[.slice A rs.length c, .int .i64 (C.rowsE g t e k)]) ∧ C.Rv w' w'.heap.size A rs ∧ rs.map (·.2.2) = C.rowsL g t e k := by
  rcases h.2 with ⟨hp, A, c, rfl⟩ | ⟨hp, A, c, rs, rfl, hv, hr⟩
  · exact ⟨A, c, [], by simp [C.rowsE, hp], C.Rv.nil _ _ _, by simp [C.rowsL, hp]⟩
  · exact ⟨A, c, rs, by simp [C.rowsE, hp], hv, by simp [C.rowsL, hp, hr]⟩
set_option maxRecDepth 100000 in
set_option maxHeartbeats 16000000 in
theorem gainlaw_any (B : Nat) (a b : C.VR) (t e k : Int) (w : World) (ha : C.Rv w B a.A a.rs) (hb : C.Rv w B b.A b.rs) (hB : B ≤ w.heap.size) :
    Calls Try.prog 7 #[a.val, b.val, .int .i64 t, .int .i64 e, .int .i64 k] w fun e' w' => e' = .returned (.bool true) ∧ Below w.heap.size w w' := by
  have GA : Hid (∀ w', Below w.heap.size w w' → Calls Try.prog 11 #[a.val] w' fun e w'' => C.Grt2 a.rs w' w'' e) := Lib.hid (fun w' hb' => great2_any B a w' (ha.below hb' hB) (Nat.le_trans hB hb'.size))
  have GB : Hid (∀ w', Below w.heap.size w w' → Calls Try.prog 11 #[b.val] w' fun e w'' => C.Grt2 b.rs w' w'' e) := Lib.hid (fun w' hb' => great2_any B b w' (hb.below hb' hB) (Nat.le_trans hB hb'.size))
  have R1 : Hid (∀ w', Below w.heap.size w w' → (a.rs.length ≤ 10 ∧ ∀ x ∈ a.rs, x.2.2.length ≤ 40) → Calls Try.prog 18 #[.slice a.A a.rs.length a.c, .int .i64 t, .int .i64 e, .int .i64 k] w' fun x w'' => (∃ A c, ∃ rs : List (Option Addr × Nat × List C.Gl), x = .returned (.tuple #[.slice A rs.length c, .int .i64 (C.rowsE a.gl t e k)]) ∧ C.Rv w'' w''.heap.size A rs ∧ rs.map (·.2.2) = C.rowsL a.gl t e k) ∧ Below w'.heap.size w' w'') := Lib.hid (fun w' hb' hl => by
    refine (Rows_any B a.A a.c a.rs t e k w' (ha.below hb' hB) (Nat.le_trans hB hb'.size) (by omega) (fun r hr => by have := hl.2 r hr; omega)).mono ?_
    intro x w'' h
    exact ⟨h.all, h.1⟩)
  have R2 : Hid (∀ w', Below w.heap.size w w' → (a.rs.length ≤ 10 ∧ ∀ x ∈ a.rs, x.2.2.length ≤ 40) → Calls Try.prog 19 #[.slice a.A a.rs.length a.c, .int .i64 t, .int .i64 e, .int .i64 k] w' fun x w'' => (∃ A c, ∃ rs : List (Option Addr × Nat × List C.Gl), x = .returned (.tuple #[.slice A rs.length c, .int .i64 (C.rowsE a.gl t e k)]) ∧ C.Rv w'' w''.heap.size A rs ∧ rs.map (·.2.2) = C.rowsL a.gl t e k) ∧ Below w'.heap.size w' w'') := Lib.hid (fun w' hb' hl => by
    refine (refRows_any B a.A a.c a.rs t e k w' (ha.below hb' hB) (Nat.le_trans hB hb'.size) (by omega) (fun r hr => by have := hl.2 r hr; omega)).mono ?_
    intro x w'' h
    exact ⟨h.all, h.1⟩)
  have G1 : Hid (∀ w', Below w.heap.size w w' → (a.rs.length ≤ 10 ∧ ∀ x ∈ a.rs, x.2.2.length ≤ 40) → Calls Try.prog 16 #[a.val, b.val, .int .i64 t, .int .i64 e, .int .i64 k] w' fun e' w'' => e' = .returned (.int .i64 (C.gn a b t e k)) ∧ Below w'.heap.size w' w'') := Lib.hid (fun w' hb' hl => Gain_any B a b t e k w' (ha.below hb' hB) (hb.below hb' hB) (Nat.le_trans hB hb'.size) (by omega))
  have G2 : Hid (∀ w', Below w.heap.size w w' → (a.rs.length ≤ 10 ∧ ∀ x ∈ a.rs, x.2.2.length ≤ 40) → Calls Try.prog 20 #[a.val, b.val, .int .i64 t, .int .i64 e, .int .i64 k] w' fun e' w'' => e' = .returned (.int .i64 (C.gn a b t e k)) ∧ Below w'.heap.size w' w'') := Lib.hid (fun w' hb' hl => refGain_any B a b t e k w' (ha.below hb' hB) (hb.below hb' hB) (Nat.le_trans hB hb'.size) (by omega) (fun r hr => by have := hl.2 r hr; omega))
  generalize C.gn a b t e k = G at *
  generalize C.rowsE a.gl t e k = E at *
  generalize C.rowsL a.gl t e k = L at *
  obtain ⟨aw, ah, aA, ac, ars, ar, aco, av⟩ := a
  obtain ⟨bw, bh, bA, bc, brs, br, bco, bv⟩ := b
  dsimp only [C.VR.val] at *
  clear ha hb
  obtain ⟨W, hW⟩ : ∃ W, (w.alloc (.cells #[.int .i64 aw, .int .i64 ah, .slice aA ars.length ac, .int .i64 ar, .int .i64 aco, .bool av] 24)).alloc (.cells #[.int .i64 bw, .int .i64 bh, .slice bA brs.length bc, .int .i64 br, .int .i64 bco, .bool bv] 24) = W := ⟨_, rfl⟩
  have hbW : Below w.heap.size w W := by rw [← hW]; exact ((Below.refl _ w).alloc (Nat.le_refl _) _).alloc (by simp) _
  have V0 : C.V2 W w.heap.size #[.int .i64 aw, .int .i64 ah, .slice aA ars.length ac, .int .i64 ar, .int .i64 aco, .bool av] #[.int .i64 bw, .int .i64 bh, .slice bA brs.length bc, .int .i64 br, .int .i64 bco, .bool bv] := by rw [← hW]; exact C.V2.new w _ _
  have xa0 := C.blk_cell V0.a 0
  have xa1 := C.blk_cell V0.a 1
  have xa2 := C.blk_cell V0.a 2
  have xa3 := C.blk_cell V0.a 3
  have xa4 := C.blk_cell V0.a 4
  have xa5 := C.blk_cell V0.a 5
  simp only [List.getElem?_toArray, List.getElem?_cons_zero, List.getElem?_cons_succ] at xa0 xa1 xa2 xa3 xa4 xa5
  have xb0 := C.blk_cell V0.b 0
  have xb1 := C.blk_cell V0.b 1
  have xb2 := C.blk_cell V0.b 2
  have xb3 := C.blk_cell V0.b 3
  have xb4 := C.blk_cell V0.b 4
  have xb5 := C.blk_cell V0.b 5
  simp only [List.getElem?_toArray, List.getElem?_cons_zero, List.getElem?_cons_succ] at xb0 xb1 xb2 xb3 xb4 xb5
  have V0 := Lib.hid V0
  go_enter Try.func7, Try.ntmps7
  go_wp2_with fail
  refine (GA.out _ hbW).mono ?_
  rintro e' w1 ⟨r1, rfl, hr1, b1'⟩
  have b1 := hbW.trans (b1'.mono hbW.size)
  have V1 := Lib.hid (V0.out.below b1')
  clear xa0 xa1 xa2 xa3 xa4 xa5 xb0 xb1 xb2 xb3 xb4 xb5 hW
  have xa0 := C.blk_cell V1.out.a 0
  have xa1 := C.blk_cell V1.out.a 1
  have xa2 := C.blk_cell V1.out.a 2
  have xa3 := C.blk_cell V1.out.a 3
  have xa4 := C.blk_cell V1.out.a 4
  have xa5 := C.blk_cell V1.out.a 5
  simp only [List.getElem?_toArray, List.getElem?_cons_zero, List.getElem?_cons_succ] at xa0 xa1 xa2 xa3 xa4 xa5
  have xb0 := C.blk_cell V1.out.b 0
  have xb1 := C.blk_cell V1.out.b 1
  have xb2 := C.blk_cell V1.out.b 2
  have xb3 := C.blk_cell V1.out.b 3
  have xb4 := C.blk_cell V1.out.b 4
  have xb5 := C.blk_cell V1.out.b 5
  simp only [List.getElem?_toArray, List.getElem?_cons_zero, List.getElem?_cons_succ] at xb0 xb1 xb2 xb3 xb4 xb5
  cases r1 with
  | true =>
    clear GA GB
    go_wp2_with fail
    refine (awake_any _).mono ?_
    rintro e' w2 ⟨rfl, b2⟩
    go_wp2_with fail
    go_ret
    exact ⟨rfl, b1.trans (b2.mono b1.size)⟩
  | false =>
    have hal := Lib.hid (hr1 rfl)
    clear hr1
    go_wp2_with fail
    refine (GB.out _ b1).mono ?_
    rintro e' w2 ⟨r2, rfl, hr2, b2'⟩
    have b2 := b1.trans (b2'.mono b1.size)
    have V2 := Lib.hid (V1.out.below b2')
    clear xa0 xa1 xa2 xa3 xa4 xa5 xb0 xb1 xb2 xb3 xb4 xb5 b2' V0 hbW
    have xa0 := C.blk_cell V2.out.a 0
    have xa1 := C.blk_cell V2.out.a 1
    have xa2 := C.blk_cell V2.out.a 2
    have xa3 := C.blk_cell V2.out.a 3
    have xa4 := C.blk_cell V2.out.a 4
    have xa5 := C.blk_cell V2.out.a 5
    simp only [List.getElem?_toArray, List.getElem?_cons_zero, List.getElem?_cons_succ] at xa0 xa1 xa2 xa3 xa4 xa5
    have xb0 := C.blk_cell V2.out.b 0
    have xb1 := C.blk_cell V2.out.b 1
    have xb2 := C.blk_cell V2.out.b 2
    have xb3 := C.blk_cell V2.out.b 3
    have xb4 := C.blk_cell V2.out.b 4
    have xb5 := C.blk_cell V2.out.b 5
    simp only [List.getElem?_toArray, List.getElem?_cons_zero, List.getElem?_cons_succ] at xb0 xb1 xb2 xb3 xb4 xb5
    cases r2 with
    | true =>
      clear GA GB
      go_wp2_with fail
      refine (awake_any _).mono ?_
      rintro e' w3 ⟨rfl, b3⟩
      go_wp2_with fail
      go_ret
      exact ⟨rfl, b2.trans (b3.mono b2.size)⟩
    | false =>
      have hbl := Lib.hid (hr2 rfl)
      clear hr2 GA GB V1
      go_wp2_with fail
      refine (R1.out _ b2 hal.out).mono ?_
      rintro e' w3 ⟨⟨A1, c1, rs1, rfl, rv1, hm1⟩, b3'⟩
      have b3 := b2.trans (b3'.mono b2.size)
      have V3 := Lib.hid (V2.out.below b3')
      have rv1 := Lib.hid rv1
      have hm1 := Lib.hid hm1
      clear xa0 xa1 xa2 xa3 xa4 xa5 xb0 xb1 xb2 xb3 xb4 xb5 R1
      have xa0 := C.blk_cell V3.out.a 0
      have xa1 := C.blk_cell V3.out.a 1
      have xa2 := C.blk_cell V3.out.a 2
      have xa3 := C.blk_cell V3.out.a 3
      have xa4 := C.blk_cell V3.out.a 4
      have xa5 := C.blk_cell V3.out.a 5
      simp only [List.getElem?_toArray, List.getElem?_cons_zero, List.getElem?_cons_succ] at xa0 xa1 xa2 xa3 xa4 xa5
      have xb0 := C.blk_cell V3.out.b 0
      have xb1 := C.blk_cell V3.out.b 1
      have xb2 := C.blk_cell V3.out.b 2
      have xb3 := C.blk_cell V3.out.b 3
      have xb4 := C.blk_cell V3.out.b 4
      have xb5 := C.blk_cell V3.out.b 5
      simp only [List.getElem?_toArray, List.getElem?_cons_zero, List.getElem?_cons_succ] at xb0 xb1 xb2 xb3 xb4 xb5
      go_wp2_with fail
      refine (R2.out _ b3 hal.out).mono ?_
      rintro e' w4 ⟨⟨A2, c2, rs2, rfl, rv2, hm2⟩, b4'⟩
      have b4 := Lib.hid (b3.trans (b4'.mono b3.size))
      have V4 := Lib.hid (V3.out.below b4')
      have rv3 := Lib.hid ((rv1.out.below b4' (Nat.le_refl _)).more b4'.size)
      have rv2 := Lib.hid rv2
      have HE : Hid (decide (rs1.map (·.2.2) = rs2.map (·.2.2)) = true) := Lib.hid (decide_eq_true (hm1.out.trans hm2.symm))
      clear xa0 xa1 xa2 xa3 xa4 xa5 xb0 xb1 xb2 xb3 xb4 xb5 R2 hm1 hm2 rv1 b2 b3 b1 b1' V2 V3
      have MK : Hid (∀ w' : World, Below w4.heap.size w4 w' → w'.cell? ⟨w.heap.size, 0, none⟩ = some (.int .i64 aw) ∧ w'.cell? ⟨w.heap.size, 1, none⟩ = some (.int .i64 ah) ∧ w'.cell? ⟨w.heap.size, 2, none⟩ = some (.slice aA ars.length ac) ∧ w'.cell? ⟨w.heap.size, 3, none⟩ = some (.int .i64 ar) ∧ w'.cell? ⟨w.heap.size, 4, none⟩ = some (.int .i64 aco) ∧ w'.cell? ⟨w.heap.size, 5, none⟩ = some (.bool av) ∧ w'.cell? ⟨w.heap.size + 1, 0, none⟩ = some (.int .i64 bw) ∧ w'.cell? ⟨w.heap.size + 1, 1, none⟩ = some (.int .i64 bh) ∧ w'.cell? ⟨w.heap.size + 1, 2, none⟩ = some (.slice bA brs.length bc) ∧ w'.cell? ⟨w.heap.size + 1, 3, none⟩ = some (.int .i64 br) ∧ w'.cell? ⟨w.heap.size + 1, 4, none⟩ = some (.int .i64 bco) ∧ w'.cell? ⟨w.heap.size + 1, 5, none⟩ = some (.bool bv) ∧ Below w4.heap.size w4 w') := Lib.hid (fun w' hb => by
        have h := V4.out.below hb
        have xa0 := C.blk_cell h.a 0
        have xa1 := C.blk_cell h.a 1
        have xa2 := C.blk_cell h.a 2
        have xa3 := C.blk_cell h.a 3
        have xa4 := C.blk_cell h.a 4
        have xa5 := C.blk_cell h.a 5
        simp only [List.getElem?_toArray, List.getElem?_cons_zero, List.getElem?_cons_succ] at xa0 xa1 xa2 xa3 xa4 xa5
        have xb0 := C.blk_cell h.b 0
        have xb1 := C.blk_cell h.b 1
        have xb2 := C.blk_cell h.b 2
        have xb3 := C.blk_cell h.b 3
        have xb4 := C.blk_cell h.b 4
        have xb5 := C.blk_cell h.b 5
        simp only [List.getElem?_toArray, List.getElem?_cons_zero, List.getElem?_cons_succ] at xb0 xb1 xb2 xb3 xb4 xb5
        exact ⟨xa0, xa1, xa2, xa3, xa4, xa5, xb0, xb1, xb2, xb3, xb4, xb5, hb⟩)
      have S0 : w4.drew.cell? ⟨w.heap.size, 0, none⟩ = some (.int .i64 aw) ∧ w4.drew.cell? ⟨w.heap.size, 1, none⟩ = some (.int .i64 ah) ∧ w4.drew.cell? ⟨w.heap.size, 2, none⟩ = some (.slice aA ars.length ac) ∧ w4.drew.cell? ⟨w.heap.size, 3, none⟩ = some (.int .i64 ar) ∧ w4.drew.cell? ⟨w.heap.size, 4, none⟩ = some (.int .i64 aco) ∧ w4.drew.cell? ⟨w.heap.size, 5, none⟩ = some (.bool av) ∧ w4.drew.cell? ⟨w.heap.size + 1, 0, none⟩ = some (.int .i64 bw) ∧ w4.drew.cell? ⟨w.heap.size + 1, 1, none⟩ = some (.int .i64 bh) ∧ w4.drew.cell? ⟨w.heap.size + 1, 2, none⟩ = some (.slice bA brs.length bc) ∧ w4.drew.cell? ⟨w.heap.size + 1, 3, none⟩ = some (.int .i64 br) ∧ w4.drew.cell? ⟨w.heap.size + 1, 4, none⟩ = some (.int .i64 bco) ∧ w4.drew.cell? ⟨w.heap.size + 1, 5, none⟩ = some (.bool bv) ∧ Below w4.heap.size w4 w4.drew := MK.out w4.drew (below_drewN (Below.refl _ w4) 1)
      have xa0 := C.blk_cell V4.out.a 0
      have xa1 := C.blk_cell V4.out.a 1
      have xa2 := C.blk_cell V4.out.a 2
      have xa3 := C.blk_cell V4.out.a 3
      have xa4 := C.blk_cell V4.out.a 4
      have xa5 := C.blk_cell V4.out.a 5
      simp only [List.getElem?_toArray, List.getElem?_cons_zero, List.getElem?_cons_succ] at xa0 xa1 xa2 xa3 xa4 xa5
      have xb0 := C.blk_cell V4.out.b 0
      have xb1 := C.blk_cell V4.out.b 1
      have xb2 := C.blk_cell V4.out.b 2
      have xb3 := C.blk_cell V4.out.b 3
      have xb4 := C.blk_cell V4.out.b 4
      have xb5 := C.blk_cell V4.out.b 5
      simp only [List.getElem?_toArray, List.getElem?_cons_zero, List.getElem?_cons_succ] at xb0 xb1 xb2 xb3 xb4 xb5
      have K1 : Hid (∀ w' : World, (w'.cell? ⟨w.heap.size, 0, none⟩ = some (.int .i64 aw) ∧ w'.cell? ⟨w.heap.size, 1, none⟩ = some (.int .i64 ah) ∧ w'.cell? ⟨w.heap.size, 2, none⟩ = some (.slice aA ars.length ac) ∧ w'.cell? ⟨w.heap.size, 3, none⟩ = some (.int .i64 ar) ∧ w'.cell? ⟨w.heap.size, 4, none⟩ = some (.int .i64 aco) ∧ w'.cell? ⟨w.heap.size, 5, none⟩ = some (.bool av) ∧ w'.cell? ⟨w.heap.size + 1, 0, none⟩ = some (.int .i64 bw) ∧ w'.cell? ⟨w.heap.size + 1, 1, none⟩ = some (.int .i64 bh) ∧ w'.cell? ⟨w.heap.size + 1, 2, none⟩ = some (.slice bA brs.length bc) ∧ w'.cell? ⟨w.heap.size + 1, 3, none⟩ = some (.int .i64 br) ∧ w'.cell? ⟨w.heap.size + 1, 4, none⟩ = some (.int .i64 bco) ∧ w'.cell? ⟨w.heap.size + 1, 5, none⟩ = some (.bool bv) ∧ Below w4.heap.size w4 w') → Calls Try.prog 16 #[.agg #[.int .i64 aw, .int .i64 ah, .slice aA ars.length ac, .int .i64 ar, .int .i64 aco, .bool av], .agg #[.int .i64 bw, .int .i64 bh, .slice bA brs.length bc, .int .i64 br, .int .i64 bco, .bool bv], .int .i64 t, .int .i64 e, .int .i64 k] w' fun e' w'' => e' = .returned (.int .i64 G) ∧ (w''.cell? ⟨w.heap.size, 0, none⟩ = some (.int .i64 aw) ∧ w''.cell? ⟨w.heap.size, 1, none⟩ = some (.int .i64 ah) ∧ w''.cell? ⟨w.heap.size, 2, none⟩ = some (.slice aA ars.length ac) ∧ w''.cell? ⟨w.heap.size, 3, none⟩ = some (.int .i64 ar) ∧ w''.cell? ⟨w.heap.size, 4, none⟩ = some (.int .i64 aco) ∧ w''.cell? ⟨w.heap.size, 5, none⟩ = some (.bool av) ∧ w''.cell? ⟨w.heap.size + 1, 0, none⟩ = some (.int .i64 bw) ∧ w''.cell? ⟨w.heap.size + 1, 1, none⟩ = some (.int .i64 bh) ∧ w''.cell? ⟨w.heap.size + 1, 2, none⟩ = some (.slice bA brs.length bc) ∧ w''.cell? ⟨w.heap.size + 1, 3, none⟩ = some (.int .i64 br) ∧ w''.cell? ⟨w.heap.size + 1, 4, none⟩ = some (.int .i64 bco) ∧ w''.cell? ⟨w.heap.size + 1, 5, none⟩ = some (.bool bv) ∧ Below w4.heap.size w4 w'')) := Lib.hid (fun w' h => by
        obtain ⟨-, -, -, -, -, -, -, -, -, -, -, -, h2⟩ := h
        refine (G1.out w' (b4.out.trans (h2.mono b4.out.size)) hal.out).mono ?_
        rintro e' w'' ⟨rfl, h3⟩
        exact ⟨rfl, MK.out w'' (h2.trans (h3.mono h2.size))⟩)
      have K2 : Hid (∀ w' : World, (w'.cell? ⟨w.heap.size, 0, none⟩ = some (.int .i64 aw) ∧ w'.cell? ⟨w.heap.size, 1, none⟩ = some (.int .i64 ah) ∧ w'.cell? ⟨w.heap.size, 2, none⟩ = some (.slice aA ars.length ac) ∧ w'.cell? ⟨w.heap.size, 3, none⟩ = some (.int .i64 ar) ∧ w'.cell? ⟨w.heap.size, 4, none⟩ = some (.int .i64 aco) ∧ w'.cell? ⟨w.heap.size, 5, none⟩ = some (.bool av) ∧ w'.cell? ⟨w.heap.size + 1, 0, none⟩ = some (.int .i64 bw) ∧ w'.cell? ⟨w.heap.size + 1, 1, none⟩ = some (.int .i64 bh) ∧ w'.cell? ⟨w.heap.size + 1, 2, none⟩ = some (.slice bA brs.length bc) ∧ w'.cell? ⟨w.heap.size + 1, 3, none⟩ = some (.int .i64 br) ∧ w'.cell? ⟨w.heap.size + 1, 4, none⟩ = some (.int .i64 bco) ∧ w'.cell? ⟨w.heap.size + 1, 5, none⟩ = some (.bool bv) ∧ Below w4.heap.size w4 w') → Calls Try.prog 20 #[.agg #[.int .i64 aw, .int .i64 ah, .slice aA ars.length ac, .int .i64 ar, .int .i64 aco, .bool av], .agg #[.int .i64 bw, .int .i64 bh, .slice bA brs.length bc, .int .i64 br, .int .i64 bco, .bool bv], .int .i64 t, .int .i64 e, .int .i64 k] w' fun e' w'' => e' = .returned (.int .i64 G) ∧ (w''.cell? ⟨w.heap.size, 0, none⟩ = some (.int .i64 aw) ∧ w''.cell? ⟨w.heap.size, 1, none⟩ = some (.int .i64 ah) ∧ w''.cell? ⟨w.heap.size, 2, none⟩ = some (.slice aA ars.length ac) ∧ w''.cell? ⟨w.heap.size, 3, none⟩ = some (.int .i64 ar) ∧ w''.cell? ⟨w.heap.size, 4, none⟩ = some (.int .i64 aco) ∧ w''.cell? ⟨w.heap.size, 5, none⟩ = some (.bool av) ∧ w''.cell? ⟨w.heap.size + 1, 0, none⟩ = some (.int .i64 bw) ∧ w''.cell? ⟨w.heap.size + 1, 1, none⟩ = some (.int .i64 bh) ∧ w''.cell? ⟨w.heap.size + 1, 2, none⟩ = some (.slice bA brs.length bc) ∧ w''.cell? ⟨w.heap.size + 1, 3, none⟩ = some (.int .i64 br) ∧ w''.cell? ⟨w.heap.size + 1, 4, none⟩ = some (.int .i64 bco) ∧ w''.cell? ⟨w.heap.size + 1, 5, none⟩ = some (.bool bv) ∧ Below w4.heap.size w4 w'')) := Lib.hid (fun w' h => by
        obtain ⟨-, -, -, -, -, -, -, -, -, -, -, -, h2⟩ := h
        refine (G2.out w' (b4.out.trans (h2.mono b4.out.size)) hal.out).mono ?_
        rintro e' w'' ⟨rfl, h3⟩
        exact ⟨rfl, MK.out w'' (h2.trans (h3.mono h2.size))⟩)
      have K3 : Hid (∀ w' : World, (w'.cell? ⟨w.heap.size, 0, none⟩ = some (.int .i64 aw) ∧ w'.cell? ⟨w.heap.size, 1, none⟩ = some (.int .i64 ah) ∧ w'.cell? ⟨w.heap.size, 2, none⟩ = some (.slice aA ars.length ac) ∧ w'.cell? ⟨w.heap.size, 3, none⟩ = some (.int .i64 ar) ∧ w'.cell? ⟨w.heap.size, 4, none⟩ = some (.int .i64 aco) ∧ w'.cell? ⟨w.heap.size, 5, none⟩ = some (.bool av) ∧ w'.cell? ⟨w.heap.size + 1, 0, none⟩ = some (.int .i64 bw) ∧ w'.cell? ⟨w.heap.size + 1, 1, none⟩ = some (.int .i64 bh) ∧ w'.cell? ⟨w.heap.size + 1, 2, none⟩ = some (.slice bA brs.length bc) ∧ w'.cell? ⟨w.heap.size + 1, 3, none⟩ = some (.int .i64 br) ∧ w'.cell? ⟨w.heap.size + 1, 4, none⟩ = some (.int .i64 bco) ∧ w'.cell? ⟨w.heap.size + 1, 5, none⟩ = some (.bool bv) ∧ Below w4.heap.size w4 w') → Calls Try.prog 21 #[.slice A1 rs1.length c1, .slice A2 rs2.length c2] w' fun e' w'' => e' = .returned (.bool true) ∧ (w''.cell? ⟨w.heap.size, 0, none⟩ = some (.int .i64 aw) ∧ w''.cell? ⟨w.heap.size, 1, none⟩ = some (.int .i64 ah) ∧ w''.cell? ⟨w.heap.size, 2, none⟩ = some (.slice aA ars.length ac) ∧ w''.cell? ⟨w.heap.size, 3, none⟩ = some (.int .i64 ar) ∧ w''.cell? ⟨w.heap.size, 4, none⟩ = some (.int .i64 aco) ∧ w''.cell? ⟨w.heap.size, 5, none⟩ = some (.bool av) ∧ w''.cell? ⟨w.heap.size + 1, 0, none⟩ = some (.int .i64 bw) ∧ w''.cell? ⟨w.heap.size + 1, 1, none⟩ = some (.int .i64 bh) ∧ w''.cell? ⟨w.heap.size + 1, 2, none⟩ = some (.slice bA brs.length bc) ∧ w''.cell? ⟨w.heap.size + 1, 3, none⟩ = some (.int .i64 br) ∧ w''.cell? ⟨w.heap.size + 1, 4, none⟩ = some (.int .i64 bco) ∧ w''.cell? ⟨w.heap.size + 1, 5, none⟩ = some (.bool bv) ∧ Below w4.heap.size w4 w'')) := Lib.hid (fun w' h => by
        obtain ⟨-, -, -, -, -, -, -, -, -, -, -, -, h2⟩ := h
        refine (samerows_any w4.heap.size A1 A2 c1 c2 rs1 rs2 w' (rv3.out.below h2 (Nat.le_refl _)) (rv2.out.below h2 (Nat.le_refl _))).mono ?_
        rintro e' w'' ⟨rfl, n, rfl⟩
        rw [HE.out]
        exact ⟨rfl, MK.out _ (below_drewN h2 n)⟩)
      have K4 : Hid (∀ w' : World, (w'.cell? ⟨w.heap.size, 0, none⟩ = some (.int .i64 aw) ∧ w'.cell? ⟨w.heap.size, 1, none⟩ = some (.int .i64 ah) ∧ w'.cell? ⟨w.heap.size, 2, none⟩ = some (.slice aA ars.length ac) ∧ w'.cell? ⟨w.heap.size, 3, none⟩ = some (.int .i64 ar) ∧ w'.cell? ⟨w.heap.size, 4, none⟩ = some (.int .i64 aco) ∧ w'.cell? ⟨w.heap.size, 5, none⟩ = some (.bool av) ∧ w'.cell? ⟨w.heap.size + 1, 0, none⟩ = some (.int .i64 bw) ∧ w'.cell? ⟨w.heap.size + 1, 1, none⟩ = some (.int .i64 bh) ∧ w'.cell? ⟨w.heap.size + 1, 2, none⟩ = some (.slice bA brs.length bc) ∧ w'.cell? ⟨w.heap.size + 1, 3, none⟩ = some (.int .i64 br) ∧ w'.cell? ⟨w.heap.size + 1, 4, none⟩ = some (.int .i64 bco) ∧ w'.cell? ⟨w.heap.size + 1, 5, none⟩ = some (.bool bv) ∧ Below w4.heap.size w4 w') → Calls Try.prog 12 #[] w' fun e' w'' => e' = .returned (.bool true) ∧ (w''.cell? ⟨w.heap.size, 0, none⟩ = some (.int .i64 aw) ∧ w''.cell? ⟨w.heap.size, 1, none⟩ = some (.int .i64 ah) ∧ w''.cell? ⟨w.heap.size, 2, none⟩ = some (.slice aA ars.length ac) ∧ w''.cell? ⟨w.heap.size, 3, none⟩ = some (.int .i64 ar) ∧ w''.cell? ⟨w.heap.size, 4, none⟩ = some (.int .i64 aco) ∧ w''.cell? ⟨w.heap.size, 5, none⟩ = some (.bool av) ∧ w''.cell? ⟨w.heap.size + 1, 0, none⟩ = some (.int .i64 bw) ∧ w''.cell? ⟨w.heap.size + 1, 1, none⟩ = some (.int .i64 bh) ∧ w''.cell? ⟨w.heap.size + 1, 2, none⟩ = some (.slice bA brs.length bc) ∧ w''.cell? ⟨w.heap.size + 1, 3, none⟩ = some (.int .i64 br) ∧ w''.cell? ⟨w.heap.size + 1, 4, none⟩ = some (.int .i64 bco) ∧ w''.cell? ⟨w.heap.size + 1, 5, none⟩ = some (.bool bv) ∧ Below w4.heap.size w4 w'')) := Lib.hid (fun w' h => by
        obtain ⟨-, -, -, -, -, -, -, -, -, -, -, -, h2⟩ := h
        refine (awake_any w').mono ?_
        rintro e' w'' ⟨rfl, h3⟩
        exact ⟨rfl, MK.out w'' (h2.trans (h3.mono h2.size))⟩)
      clear G1 G2 MK V4 rv3 rv2 HE b4' b3'
      go_wp2_with fail
      go_region_held3 (fun w' => w'.cell? ⟨w.heap.size, 0, none⟩ = some (.int .i64 aw) ∧ w'.cell? ⟨w.heap.size, 1, none⟩ = some (.int .i64 ah) ∧ w'.cell? ⟨w.heap.size, 2, none⟩ = some (.slice aA ars.length ac) ∧ w'.cell? ⟨w.heap.size, 3, none⟩ = some (.int .i64 ar) ∧ w'.cell? ⟨w.heap.size, 4, none⟩ = some (.int .i64 aco) ∧ w'.cell? ⟨w.heap.size, 5, none⟩ = some (.bool av) ∧ w'.cell? ⟨w.heap.size + 1, 0, none⟩ = some (.int .i64 bw) ∧ w'.cell? ⟨w.heap.size + 1, 1, none⟩ = some (.int .i64 bh) ∧ w'.cell? ⟨w.heap.size + 1, 2, none⟩ = some (.slice bA brs.length bc) ∧ w'.cell? ⟨w.heap.size + 1, 3, none⟩ = some (.int .i64 br) ∧ w'.cell? ⟨w.heap.size + 1, 4, none⟩ = some (.int .i64 bco) ∧ w'.cell? ⟨w.heap.size + 1, 5, none⟩ = some (.bool bv) ∧ Below w4.heap.size w4 w') (first | assumption | exact S0) (first | (go_at_call 16; (with_reducible refine (K1.out _ ?_).mono ?_); (first | assumption | exact S0); rintro e' w' ⟨rfl, hS⟩) | (go_at_call 20; (with_reducible refine (K2.out _ ?_).mono ?_); (first | assumption | exact S0); rintro e' w' ⟨rfl, hS⟩) | (go_at_call 21; (with_reducible refine (K3.out _ ?_).mono ?_); (first | assumption | exact S0); rintro e' w' ⟨rfl, hS⟩) | (go_at_call 12; (with_reducible refine (K4.out _ ?_).mono ?_); (first | assumption | exact S0); rintro e' w' ⟨rfl, hS⟩))
      all_goals
        obtain ⟨-, -, -, -, -, -, -, -, -, -, -, -, hbz⟩ := hS
        go_wp2_with fail
        go_ret
        exact ⟨rfl, b4.out.trans (hbz.mono b4.out.size)⟩

theorem gainlaw (B : Nat) (a b : C.VR) (t e k : Int) (w : World) (ha : C.Rv w B a.A a.rs) (hb : C.Rv w B b.A b.rs) (hB : B ≤ w.heap.size) (_ : -9223372036854775808 ≤ t) (_ : t ≤ 9223372036854775807) (_ : -9223372036854775808 ≤ e) (_ : e ≤ 9223372036854775807) (hk1 : -9223372036854775808 ≤ k) (hk2 : k ≤ 9223372036854775807) :
    Calls Try.prog 7 #[a.val, b.val, .int .i64 t, .int .i64 e, .int .i64 k] w fun e' w' => e' = .returned (.bool true) ∧ Below w.heap.size w w' := gainlaw_any B a b t e k w ha hb hB
end Go.Proofs.Ythohninbelhddaa
