/-
  The walks of layer 44: New. By an AI agent.
-/
import Derived.Test.YtfjkelngdljikaaQw
import Derived.Test.YtfjkelngdljikaaCh4
namespace Go.Proofs.Ytfjkelngdljikaa
set_option linter.unusedVariables false
set_option linter.unusedSimpArgs false
open Go.RowKit Go.Joins

theorem chk_new_bad {t r : Int} (h : t < 0 ∨ 1099511627776 < t ∨ r < 25 ∨ 400 < r) : Q.chk ⟨t, r, false, Q.zero, 0, 0, []⟩ = 2 := Q.chk_clock h
theorem chk_new_good {t r : Int} (h : ¬ (t < 0 ∨ 1099511627776 < t ∨ r < 25 ∨ 400 < r)) : Q.chk ⟨t, r, false, Q.zero, 0, 0, []⟩ = 0 := by
  rw [Q.chk_f h rfl (by simp)]
  simp [Q.prs, Q.soon]
theorem check_new (t r : Int) (w : World) : Calls Try.prog 17 #[.agg (Q.new t r)] w fun e w' => e = .returned (.int .i64 (Q.chk ⟨t, r, false, Q.zero, 0, 0, []⟩)) ∧ Below w.heap.size w w' :=
  check_any ⟨t, r, false, ⟨Q.zero, none, 0, none, 0⟩, 0, 0, [], none, 0⟩ w.heap.size w ⟨rfl, fun h => absurd h (by simp)⟩ (Nat.le_refl _) (by simp) (fun m hm => by cases hm) (by simp [Q.zero]) (by simp [Q.zero])
/-- What New answers. -/
def Q.NOut (t r cv : Int) (w w' : World) (e : Ending) : Prop := e = .returned (.tuple #[.agg (if cv = 0 then Q.new t r else Q.new 0 0), .int .i64 cv]) ∧ Below w.heap.size w w'
set_option maxRecDepth 100000 in
theorem new_any (t r : Int) (w : World) :
    Calls Try.prog 21 #[.int .i64 t, .int .i64 r] w fun e w' => Q.NOut t r (Q.chk ⟨t, r, false, Q.zero, 0, 0, []⟩) w w' e := by
  have CK := fun W => check_new t r W
  generalize Q.chk ⟨t, r, false, Q.zero, 0, 0, []⟩ = cv at *
  have b0 := (below_box w (.cells (Q.new 0 0) 28)).alloc (by simp) (.cells (Q.new t r) 28)
  have V0 := heap_old2 (w.alloc (.cells (Q.new 0 0) 28)) (.cells (Q.new t r) 28) (heap_alloc_new w _)
  have V1 := heap_alloc_new (w.alloc (.cells (Q.new 0 0) 28)) (.cells (Q.new t r) 28)
  rw [World.size_alloc] at V1
  have s0 : ((w.alloc (.cells (Q.new 0 0) 28)).alloc (.cells (Q.new t r) 28)).heap.size = w.heap.size + 2 := by simp
  simp only [Q.new] at s0
  replace CK := Lib.hid CK
  replace b0 := Lib.hid b0
  replace V0 := Lib.hid V0
  replace V1 := Lib.hid V1
  replace s0 := Lib.hid s0
  go_enter Try.func21, Try.ntmps21
  go_wp2_with fail
  refine (CK.out _).mono ?_
  rintro e w1 ⟨rfl, bb⟩
  have hsz := s0.out
  have B1 := Lib.hid (b0.out.trans (bb.mono b0.out.size))
  have VB1 := Lib.hid ((bb.block w.heap.size (by omega)).trans V0.out)
  have VR1 := Lib.hid ((bb.block (w.heap.size + 1) (by omega)).trans V1.out)
  have hs1 : w.heap.size + 2 ≤ w1.heap.size := by have := bb.size; omega
  have HIQ := Lib.hid infoQ
  clear bb b0 V0 V1 hsz s0 CK
  obtain ⟨N, hN⟩ : ∃ N, w.heap.size = N := ⟨_, rfl⟩
  rw [hN] at B1 VB1 VR1 hs1 ⊢
  by_cases hc : cv = 0
  · subst hc
    have k0 := cell_of_block_ (i := 0) VR1.out
    have k1 := cell_of_block_ (i := 1) VR1.out
    have k2 := cell_of_block_ (i := 2) VR1.out
    have k3 := cell_of_block_ (i := 3) VR1.out
    have k4 := cell_of_block_ (i := 4) VR1.out
    have k5 := cell_of_block_ (i := 5) VR1.out
    have k6 := cell_of_block_ (i := 6) VR1.out
    have k7 := cell_of_block_ (i := 7) VR1.out
    have k8 := cell_of_block_ (i := 8) VR1.out
    have k9 := cell_of_block_ (i := 9) VR1.out
    have k10 := cell_of_block_ (i := 10) VR1.out
    simp at k0 k1 k2 k3 k4 k5 k6 k7 k8 k9 k10
    go_wp2_with (refine wpList_store_blk rfl 28 (.tmp 4) (.tmp 17) rfl N 0 (Q.new t r) _ 28 ?hx ?hy VB1.out (by simp) HIQ.out (by simp [Value.oneCell']) ?_; (case hx => rfl); (case hy => rfl); intro w5 hv5 hg5; (simp [putAt] at hv5))
    have r0 := cell_of_block_ (i := 0) hv5
    have r1 := cell_of_block_ (i := 1) hv5
    have r2 := cell_of_block_ (i := 2) hv5
    have r3 := cell_of_block_ (i := 3) hv5
    have r4 := cell_of_block_ (i := 4) hv5
    have r5 := cell_of_block_ (i := 5) hv5
    have r6 := cell_of_block_ (i := 6) hv5
    have r7 := cell_of_block_ (i := 7) hv5
    have r8 := cell_of_block_ (i := 8) hv5
    have r9 := cell_of_block_ (i := 9) hv5
    have r10 := cell_of_block_ (i := 10) hv5
    simp at r0 r1 r2 r3 r4 r5 r6 r7 r8 r9 r10
    exact bodyPost_ret (v := .tuple #[.agg (Q.new t r), .int .i64 0]) (by simp [results, Try.results21, go_sem, r0, r1, r2, r3, r4, r5, r6, r7, r8, r9, r10]) rfl ⟨rfl, by rw [hN]; exact B1.out.trans (below_of_only hg5 (Nat.le_refl N) (by omega))⟩
  · have hb : (cv != 0) = true := bne_iff_ne.2 hc
    have HC := Lib.hid hc
    clear hc
    go_wp2_with (refine wpList_store_blk rfl 28 (.tmp 4) (.tmp 15) rfl N 0 (Q.new 0 0) _ 28 ?hx ?hy VB1.out (by simp) HIQ.out (by simp [Value.oneCell']) ?_; (case hx => rfl); (case hy => rfl); intro w5 hv5 hg5; (simp [putAt] at hv5))
    have r0 := cell_of_block_ (i := 0) hv5
    have r1 := cell_of_block_ (i := 1) hv5
    have r2 := cell_of_block_ (i := 2) hv5
    have r3 := cell_of_block_ (i := 3) hv5
    have r4 := cell_of_block_ (i := 4) hv5
    have r5 := cell_of_block_ (i := 5) hv5
    have r6 := cell_of_block_ (i := 6) hv5
    have r7 := cell_of_block_ (i := 7) hv5
    have r8 := cell_of_block_ (i := 8) hv5
    have r9 := cell_of_block_ (i := 9) hv5
    have r10 := cell_of_block_ (i := 10) hv5
    simp at r0 r1 r2 r3 r4 r5 r6 r7 r8 r9 r10
    exact bodyPost_ret (v := .tuple #[.agg (Q.new 0 0), .int .i64 cv]) (by simp [results, Try.results21, go_sem, r0, r1, r2, r3, r4, r5, r6, r7, r8, r9, r10]) rfl ⟨by rw [if_neg HC.out], by rw [hN]; exact B1.out.trans (below_of_only hg5 (Nat.le_refl N) (by omega))⟩
end Go.Proofs.Ytfjkelngdljikaa
