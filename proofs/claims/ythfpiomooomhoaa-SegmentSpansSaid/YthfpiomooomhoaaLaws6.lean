/-
  The statements of layer 22: SegmentSpans. By an AI agent.
-/
import Derived.Test.YthfpiomooomhoaaRefs
namespace Go.Proofs.Ythfpiomooomhoaa
open Go.RowKit

set_option maxRecDepth 10000 in
set_option maxHeartbeats 4000000 in
theorem spanslaw_any (A : Option Addr) (c B : Nat) (gs : List S.G) (w : World) (hrow : Row w B A gs) (hB : B ≤ w.heap.size) :
    Calls Try.prog 6 #[.slice A gs.length c] w fun e w' => e = .returned (.bool true) ∧ Below w.heap.size w w' := by
  have HG := Lib.hid (great_any A c B gs w hrow.1 hrow.2.1 hrow.2.2)
  cases hgr : S.great gs
  · obtain ⟨hl, hg⟩ := S.great_false hgr
    rw [hgr] at HG
    clear hgr
    have hwl : (S.words gs).length ≤ 200 := Nat.le_trans (List.length_filterMap_le _ _) (Nat.le_trans (S.spans_length _ _ _) (by omega))
    have hfl : (S.fields gs).length ≤ 200 := Nat.le_trans (List.length_filterMap_le _ _) (Nat.le_trans (S.spans_length _ _ _) (by omega))
    have CW1 : Hid (∀ w', Below w.heap.size w w' → Calls Try.prog 14 #[.slice A gs.length c] w' fun e W' => ∃ A' c', e = .returned (.slice A' (S.words gs).length c') ∧ Reads W' W'.heap.size 2 A' (S.words gs).length ((S.words gs).flatMap S.sc) ∧ Below w'.heap.size w' W') := Lib.hid (fun w' h =>
      words_any A c B gs w' (hrow.1.below h hB) (Nat.le_trans hB h.size) (by omega) hrow.2.2)
    have CW2 : Hid (∀ w', Below w.heap.size w w' → Calls Try.prog 19 #[.slice A gs.length c] w' fun e W' => ∃ A' c', e = .returned (.slice A' (S.words gs).length c') ∧ Reads W' W'.heap.size 2 A' (S.words gs).length ((S.words gs).flatMap S.sc) ∧ Below w'.heap.size w' W') := Lib.hid (fun w' h =>
      refwords_any A c B gs w' (hrow.below h hB) (Nat.le_trans hB h.size) (by omega))
    have CF1 : Hid (∀ w', Below w.heap.size w w' → Calls Try.prog 17 #[.slice A gs.length c] w' fun e W' => ∃ A' c', e = .returned (.slice A' (S.fields gs).length c') ∧ Reads W' W'.heap.size 2 A' (S.fields gs).length ((S.fields gs).flatMap S.sc) ∧ Below w'.heap.size w' W') := Lib.hid (fun w' h =>
      fields_any A c B gs w' (hrow.1.below h hB) (Nat.le_trans hB h.size) (by omega) hrow.2.2)
    have CF2 : Hid (∀ w', Below w.heap.size w w' → Calls Try.prog 20 #[.slice A gs.length c] w' fun e W' => ∃ A' c', e = .returned (.slice A' (S.fields gs).length c') ∧ Reads W' W'.heap.size 2 A' (S.fields gs).length ((S.fields gs).flatMap S.sc) ∧ Below w'.heap.size w' W') := Lib.hid (fun w' h =>
      reffields_any A c B gs w' (hrow.below h hB) (Nat.le_trans hB h.size) (by omega))
    have CI1 : Hid (∀ w', Below w.heap.size w w' → Calls Try.prog 21 #[.slice A gs.length c] w' fun e W' => e = .returned (.int .i64 (S.indent gs)) ∧ Below w'.heap.size w' W') := Lib.hid (fun w' h =>
      indent_any A c B gs w' (hrow.below h hB) (Nat.le_trans hB h.size))
    have CI2 : Hid (∀ w', Below w.heap.size w w' → Calls Try.prog 22 #[.slice A gs.length c] w' fun e W' => e = .returned (.int .i64 (S.indent gs)) ∧ Below w'.heap.size w' W') := Lib.hid (fun w' h =>
      refindent_any A c B gs w' (hrow.below h hB) (Nat.le_trans hB h.size))
    have CS : Hid (∀ (xs : List (Nat × Nat)) A A' c c' B (w : World), xs.length ≤ 200 → Reads w B 2 A xs.length (xs.flatMap S.sc) → Reads w B 2 A' xs.length (xs.flatMap S.sc) → Calls Try.prog 18 #[.slice A xs.length c, .slice A' xs.length c'] w fun e w' => e = .returned (.bool true) ∧ ∃ n, w' = w.drewN n) := Lib.hid (fun xs A A' c c' B w hx h h' => by
      have := same_any A A' c c' B xs xs w h h' (by omega) (by omega)
      simpa using this)
    have HL := Lib.hid (And.intro hwl hfl)
    clear hwl hfl hrow hg
    generalize S.words gs = ws at *
    generalize S.fields gs = fs at *
    generalize S.indent gs = ind at *
    have d0 := Below.refl w.heap.size w
    go_enter Try.func6, Try.ntmps6
    go_wp2_with fail
    refine HG.out.mono ?_
    rintro e w0 ⟨rfl, rfl⟩
    go_wp2_with fail
    refine (CW1.out _ d0).mono ?_
    rintro e a1 ⟨B1, k1, rfl, q1, h1⟩
    have d1 := d0.trans (h1.mono d0.size)
    clear h1
    go_wp2_with fail
    refine (CW2.out _ d1).mono ?_
    rintro e a2 ⟨B2, k2, rfl, q2, h2⟩
    have d2 := d1.trans (h2.mono d1.size)
    have q1' := (q1.below h2 (Nat.le_refl _)).more h2.size
    clear h2 q1
    go_wp2_with fail
    refine (CS.out ws _ _ _ _ _ _ HL.out.1 q1' q2).mono ?_
    rintro e a3 ⟨rfl, n3, rfl⟩
    have d3 := below_drewN d2 n3
    clear q1' q2
    generalize a2.drewN n3 = a3 at *
    go_wp2_with fail
    refine (CF1.out _ d3).mono ?_
    rintro e a4 ⟨B4, k4, rfl, q4, h4⟩
    have d4 := d3.trans (h4.mono d3.size)
    clear h4
    go_wp2_with fail
    refine (CF2.out _ d4).mono ?_
    rintro e a5 ⟨B5, k5, rfl, q5, h5⟩
    have d5 := d4.trans (h5.mono d4.size)
    have q4' := (q4.below h5 (Nat.le_refl _)).more h5.size
    clear h5 q4
    go_wp2_with fail
    refine (CS.out fs _ _ _ _ _ _ HL.out.2 q4' q5).mono ?_
    rintro e a6 ⟨rfl, n6, rfl⟩
    have d6 := below_drewN d5 n6
    clear q4' q5
    generalize a5.drewN n6 = a6 at *
    go_wp2_with fail
    refine (CI1.out _ d6).mono ?_
    rintro e a7 ⟨rfl, h7⟩
    have d7 := d6.trans (h7.mono d6.size)
    clear h7
    go_wp2_with fail
    refine (CI2.out _ d7).mono ?_
    rintro e a8 ⟨rfl, h8⟩
    have d8 := d7.trans (h8.mono d7.size)
    clear h8
    go_wp2_with fail
    refine (awake_any _).mono ?_
    rintro e a9 ⟨rfl, h9⟩
    have d9 := d8.trans (h9.mono d8.size)
    go_wp2_with fail
    go_ret
    exact ⟨rfl, d9⟩
  · rw [hgr] at HG
    clear hgr hrow
    go_enter Try.func6, Try.ntmps6
    go_wp2_with fail
    refine HG.out.mono ?_
    rintro e w0 ⟨rfl, rfl⟩
    go_wp2_with fail
    refine (awake_any _).mono ?_
    rintro e w5 ⟨rfl, b5⟩
    go_wp2_with fail
    go_ret
    exact ⟨rfl, b5⟩
end Go.Proofs.Ythfpiomooomhoaa
