/-
  The walks of layer 30: the statements' own example. By an AI agent.
-/
import Derived.Test.YtoemhphgnpedmaaMw
namespace Go.Proofs.Ytoemhphgnpedmaa
open Go.RowKit

def I.exA : I.Rg := ⟨2, 7, 0, 0, 0, 2, 10, ⟨#[120]⟩⟩
def I.exB : I.Rg := ⟨2, 0, 0, 1, 0, 3, 10, ⟨#[120]⟩⟩
theorem I.ex_like : I.like I.exA I.exB = 600 := by decide
theorem I.ex_like2 : I.like I.exB I.exA = 600 := by decide
theorem I.ex_out {N : Nat → Nat} (h : A.Best (I.dim [I.exB] [I.exA]) (I.cst [I.exB] [I.exA]) N) : I.cntF [I.exB] [I.exA] N 1 = 0 ∧ I.outsW [I.exB] [I.exA] N 9 = [{ I.exB with id := 7 }] := by
  have h1 := h.pf.rg 1 (by decide) (by decide)
  have h2 : I.dim [I.exB] [I.exA] = 1 := rfl
  rw [h2] at h1
  have h3 : N 1 = 1 := by omega
  have h4 : I.fresh [I.exB] [I.exA] N 0 = false := by
    unfold I.fresh
    rw [h3]
    decide
  constructor
  · simp [I.cntF, h4]
  · have e : I.idW [I.exB] [I.exA] N 9 0 = 7 := by
      unfold I.idW
      rw [h4, h3]
      rfl
    have e2 : I.outW [I.exB] [I.exA] N 9 0 = { I.exB with id := 7 } := by
      unfold I.outW
      rw [e]
      rfl
    show [I.outW [I.exB] [I.exA] N 9 0] = _
    rw [e2]
theorem reads_block {w : World} {g : Nat} {cs : List Value} {t : TypeId} {B size n : Nat} (h : w.heap[g]? = some (.cells cs.toArray t (0, 0))) (hB : g < B) (hl : cs.length = n * size) : Reads w B size (some ⟨g, 0, none⟩) n cs :=
  ⟨hl, fun _ => ⟨_, rfl, hB, fun j u hu => by
    rw [show ((⟨g, 0, none⟩ : Addr).add j) = ⟨g, j, none⟩ from by unfold Addr.add; split <;> simp_all, C.blk_cell h]
    simpa using hu⟩⟩
def I.exW (w : World) : World := (((w.alloc (.cells I.exA.cells.toArray 27)).alloc (.cells I.exB.cells.toArray 27)).alloc (.cells I.exA.cells.toArray 27)).alloc (.cells I.exB.cells.toArray 27)
theorem I.at_block {w : World} {g : Nat} {r : I.Rg} (h : w.heap[g]? = some (.cells r.cells.toArray 27 (0, 0))) : I.At w g 0 r :=
  have k := fun j => C.blk_cell h j
  ⟨k 0, k 1, k 2, k 3, k 4, k 5, k 6, k 7⟩
theorem I.exW_heap (w : World) : (I.exW w).heap.size = w.heap.size + 4 ∧ (I.exW w).heap[w.heap.size]? = some (.cells I.exA.cells.toArray 27 (0, 0)) ∧ (I.exW w).heap[w.heap.size + 1]? = some (.cells I.exB.cells.toArray 27 (0, 0)) ∧
    (I.exW w).heap[w.heap.size + 1 + 1]? = some (.cells I.exA.cells.toArray 27 (0, 0)) ∧ (I.exW w).heap[w.heap.size + 1 + 1 + 1]? = some (.cells I.exB.cells.toArray 27 (0, 0)) ∧ Below w.heap.size w (I.exW w) := by
  have h1 := C.heap_new w (.cells I.exA.cells.toArray 27)
  have h2 := C.heap_new (w.alloc (.cells I.exA.cells.toArray 27)) (.cells I.exB.cells.toArray 27)
  have h3 := C.heap_new ((w.alloc (.cells I.exA.cells.toArray 27)).alloc (.cells I.exB.cells.toArray 27)) (.cells I.exA.cells.toArray 27)
  have h4 := C.heap_new (((w.alloc (.cells I.exA.cells.toArray 27)).alloc (.cells I.exB.cells.toArray 27)).alloc (.cells I.exA.cells.toArray 27)) (.cells I.exB.cells.toArray 27)
  simp only [World.size_alloc] at h2 h3 h4
  refine ⟨by simp [I.exW], ?_, ?_, ?_, h4, ((((Below.refl _ w).alloc (Nat.le_refl _) _).alloc (by simp) _).alloc (by simp <;> omega) _).alloc (by simp <;> omega) _⟩
  · exact (Below.heap_alloc _ _ _ (by simp <;> omega)).trans ((Below.heap_alloc _ _ _ (by simp <;> omega)).trans ((Below.heap_alloc _ _ _ (by simp)).trans h1))
  · exact (Below.heap_alloc _ _ _ (by simp <;> omega)).trans ((Below.heap_alloc _ _ _ (by simp)).trans h2)
  · exact (Below.heap_alloc _ _ _ (by simp)).trans h3
set_option maxRecDepth 100000 in
set_option maxHeartbeats 8000000 in
theorem awake_any (w : World) : Calls Try.prog 13 #[] w fun e w' => e = .returned (.bool true) ∧ Below w.heap.size w w' := by
  obtain ⟨z, g0, g1, g2, g3, hb⟩ := I.exW_heap w
  have MO : Hid (Calls Try.prog 16 #[.slice (some ⟨w.heap.size + 1 + 1, 0, none⟩) 1 1, .slice (some ⟨w.heap.size + 1 + 1 + 1, 0, none⟩) 1 1, .int .i64 9] (I.exW w) fun e w' => (∃ g c, e = .returned (.tuple #[.slice (some ⟨g, 0, none⟩) 1 c, .int .i64 9]) ∧ w'.ownsRow (w.heap.size + 4) 27 8 (.slice (some ⟨g, 0, none⟩) 1 c) 1 (I.rcs [{ I.exB with id := 7 }])) ∧ Below w.heap.size w w' ∧ I.At w' w.heap.size 0 I.exA ∧ I.At w' (w.heap.size + 1) 0 I.exB ∧ w.heap.size + 4 ≤ w'.heap.size) := Lib.hid (by
    have M := match_any (w.heap.size + 4) (some ⟨w.heap.size + 1 + 1, 0, none⟩) (some ⟨w.heap.size + 1 + 1 + 1, 0, none⟩) 1 1 [I.exA] [I.exB] 9 (I.exW w) (reads_block (n := 1) (size := 8) g2 (by omega) rfl) (reads_block (n := 1) (size := 8) g3 (by omega) rfl) (by omega) (by decide) (by decide) (by decide) (by decide) (by decide)
    refine M.mono ?_
    rintro e w' ⟨N, v, rfl, hown, best, b1⟩
    obtain ⟨x1, x2⟩ := I.ex_out best
    rw [x2, z] at hown
    have hs := b1.size
    obtain ⟨g, c, rfl⟩ := ownsRow_succ (k := 0) hown
    refine ⟨⟨g, c, ?_, hown⟩, hb.trans (b1.mono (by omega)), (I.at_block g0).below b1 (by omega), (I.at_block g1).below b1 (by omega), by omega⟩
    show Ending.returned (.tuple #[_, .int .i64 (wrap64 (9 + (I.cntF [I.exB] [I.exA] N 1 : Nat)))]) = _
    rw [x1, show wrap64 (9 + ((0 : Nat) : Int)) = 9 from by unfold wrap64; decide])
  have LK : Hid (∀ w' : World, Calls Try.prog 19 #[.agg #[.int .i64 2, .int .i64 7, .int .i64 0, .int .i64 0, .int .i64 0, .int .i64 2, .int .i64 10, .string ⟨#[120]⟩], .agg #[.int .i64 2, .int .i64 0, .int .i64 0, .int .i64 1, .int .i64 0, .int .i64 3, .int .i64 10, .string ⟨#[120]⟩]] w' fun e w'' => e = .returned (.int .i64 600) ∧ Below w'.heap.size w' w'') := Lib.hid (fun w' => by
    have h := like_any I.exA I.exB w'
    rw [I.ex_like] at h
    exact h)
  clear z g0 g1 g2 g3 hb
  go_enter Try.func13, Try.ntmps13
  go_wp2_with fail
  refine MO.out.mono ?_
  rintro e' w1 ⟨⟨g, c, rfl, hown⟩, b1, ⟨a0, a1, a2, a3, a4, a5, a6, a7⟩, ⟨d0, d1, d2, d3, d4, d5, d6, d7⟩, hs⟩
  have OW := Lib.hid hown
  have B1 := Lib.hid b1
  simp only [Nat.zero_add, I.exA, I.exB] at a0 a1 a2 a3 a4 a5 a6 a7 d0 d1 d2 d3 d4 d5 d6 d7
  clear hown b1 MO
  go_wp2_with fail
  refine (LK.out _).mono ?_
  rintro e' w2 ⟨rfl, b2⟩
  have c1 := (I.own_at (own_under OW.out b2) (i := 0) (by decide)).c1
  have B2 := Lib.hid (B1.out.trans (b2.mono B1.out.size))
  simp only [Nat.zero_mul, Nat.zero_add, List.getD_cons_zero] at c1
  clear OW B1 LK b2 a0 a1 a2 a3 a4 a5 a6 a7 d0 d1 d2 d3 d4 d5 d6 d7
  go_wp2_with fail
  go_ret
  exact ⟨rfl, B2.out⟩
end Go.Proofs.Ytoemhphgnpedmaa
