/-
  The walks of layer 29: the statements' own example. By an AI agent.
-/
import Derived.Test.YtnekhlklflgodaaMat
namespace Go.Proofs.Ytnekhlklflgodaa
open Go.RowKit

def C.ex : List (List Int) := [[4, 1, 3], [2, 0, 5], [3, 2, 2]]
def C.exq (r : Nat) : Nat := if r = 1 then 2 else if r = 2 then 1 else 3
def C.exu (r : Nat) : Int := if r = 1 then 1 else 0
def C.exv (j : Nat) : Int := if j = 1 then 2 else if j = 2 then 0 else 2
theorem A.three {r : Nat} (h1 : 1 ≤ r) (h2 : r ≤ 3) : r = 1 ∨ r = 2 ∨ r = 3 := by omega
theorem C.ex_best {N : Nat → Nat} (h : A.Best 3 (C.cst C.ex) N) : C.asg 3 N = [1, 0, 2] := by
  have hb := (A.best_of (n := 3) (c := C.cst C.ex) (u := C.exu) (v := C.exv) (col := C.exq) (p := C.exq) (fun r j h1 h2 h3 h4 => by
    rcases A.three h1 h2 with rfl | rfl | rfl <;> rcases A.three h3 h4 with rfl | rfl | rfl <;> decide) {
    cr := fun r h1 h2 => by rcases A.three h1 h2 with rfl | rfl | rfl <;> decide
    pc := fun j h1 h2 => by rcases A.three h1 h2 with rfl | rfl | rfl <;> decide } (fun r h1 h2 h3 N hN ht _ => by
      have t1 := ht 1 (by omega) (by omega)
      have t2 := ht 2 (by omega) (by omega)
      have t3 := ht 3 (by omega) (by omega)
      have i12 := hN.inj 1 2 (by omega) (by omega) (by omega) (by omega)
      have i13 := hN.inj 1 3 (by omega) (by omega) (by omega) (by omega)
      obtain ⟨a1, a2⟩ := hN.rg 1 (by omega) (by omega)
      obtain ⟨b1, b2⟩ := hN.rg 2 (by omega) (by omega)
      obtain ⟨c1, c2⟩ := hN.rg 3 (by omega) (by omega)
      generalize h1' : N 1 = n1 at *
      generalize h2' : N 2 = n2 at *
      generalize h3' : N 3 = n3 at *
      rcases A.three a1 a2 with rfl | rfl | rfl <;> rcases A.three b1 b2 with rfl | rfl | rfl <;> rcases A.three c1 c2 with rfl | rfl | rfl <;> first
        | (exfalso; revert t1; decide)
        | (exfalso; revert t2; decide)
        | (exfalso; revert t3; decide)
        | (exfalso; revert i12; decide)
        | (exfalso; revert i13; decide)
        | (rcases A.three h1 h3 with rfl | rfl | rfl <;> (first | rw [h1'] | rw [h2'] | rw [h3']) <;> decide))).1
  have e := A.best_unique h hb
  unfold C.asg
  have e1 := e 1 (by omega) (by omega)
  have e2 := e 2 (by omega) (by omega)
  have e3 := e 3 (by omega) (by omega)
  simp only [List.range_succ, List.range_zero, List.nil_append, List.cons_append, List.map_cons, List.map_nil, e1, e2, e3, Nat.zero_add]
  decide
theorem C.ex_tot : C.totV C.ex [1, 0, 2] = (5, 0) := by decide
theorem C.ex_sq : C.chkV C.ex = 0 := by decide
/-- A table that is written out. -/
def C.litW (w : World) (a b c : List Int) : World := (((w.alloc (.cells (C.ns a).toArray 3)).alloc (.cells (C.ns b).toArray 3)).alloc (.cells (C.ns c).toArray 3)).alloc (.cells #[.slice (some ⟨w.heap.size, 0, none⟩) a.length a.length, .slice (some ⟨w.heap.size + 1, 0, none⟩) b.length b.length, .slice (some ⟨w.heap.size + 1 + 1, 0, none⟩) c.length c.length] 23)
theorem C.lit_below (w : World) (a b c : List Int) : Below w.heap.size w (C.litW w a b c) := ((((Below.refl _ w).alloc (Nat.le_refl _) _).alloc (by simp) _).alloc (by simp <;> omega) _).alloc (by simp <;> omega) _
theorem reads_at_block {w : World} {g : Nat} {cs : List Value} {t : TypeId} {B : Nat} (h : w.heap[g]? = some (.cells cs.toArray t (0, 0))) (hB : g < B) : Reads w B 1 (some ⟨g, 0, none⟩) cs.length cs :=
  ⟨by simp, fun _ => ⟨_, rfl, hB, fun j u hu => by
    rw [show ((⟨g, 0, none⟩ : Addr).add j) = ⟨g, j, none⟩ from by unfold Addr.add; split <;> simp_all, C.blk_cell h]
    simpa using hu⟩⟩
theorem C.lit_mx (w : World) (a b c : List Int) (ha : a.length ≤ maxLen) (hb : b.length ≤ maxLen) (hc : c.length ≤ maxLen) :
    C.Mx (C.litW w a b c) (C.litW w a b c).heap.size (some ⟨w.heap.size + 1 + 1 + 1, 0, none⟩) [(some ⟨w.heap.size, 0, none⟩, a.length, a), (some ⟨w.heap.size + 1, 0, none⟩, b.length, b), (some ⟨w.heap.size + 1 + 1, 0, none⟩, c.length, c)] := by
  have hsz : (C.litW w a b c).heap.size = w.heap.size + 4 := by simp [C.litW]
  have g0 : (C.litW w a b c).heap[w.heap.size]? = some (.cells (C.ns a).toArray 3 (0, 0)) :=
    (Below.heap_alloc _ _ _ (by simp <;> omega)).trans ((Below.heap_alloc _ _ _ (by simp <;> omega)).trans ((Below.heap_alloc _ _ _ (by simp)).trans (C.heap_new w _)))
  have g1 : (C.litW w a b c).heap[w.heap.size + 1]? = some (.cells (C.ns b).toArray 3 (0, 0)) := by
    have := C.heap_new (w.alloc (.cells (C.ns a).toArray 3)) (.cells (C.ns b).toArray 3)
    rw [World.size_alloc] at this
    exact (Below.heap_alloc _ _ _ (by simp <;> omega)).trans ((Below.heap_alloc _ _ _ (by simp)).trans this)
  have g2 : (C.litW w a b c).heap[w.heap.size + 1 + 1]? = some (.cells (C.ns c).toArray 3 (0, 0)) := by
    have := C.heap_new ((w.alloc (.cells (C.ns a).toArray 3)).alloc (.cells (C.ns b).toArray 3)) (.cells (C.ns c).toArray 3)
    rw [World.size_alloc, World.size_alloc] at this
    exact (Below.heap_alloc _ _ _ (by simp)).trans this
  have g3 := C.heap_new (((w.alloc (.cells (C.ns a).toArray 3)).alloc (.cells (C.ns b).toArray 3)).alloc (.cells (C.ns c).toArray 3)) (.cells #[.slice (some ⟨w.heap.size, 0, none⟩) a.length a.length, .slice (some ⟨w.heap.size + 1, 0, none⟩) b.length b.length, .slice (some ⟨w.heap.size + 1 + 1, 0, none⟩) c.length c.length] 23)
  simp only [World.size_alloc] at g3
  refine ⟨?_, fun r hr => ?_, by show 3 ≤ maxLen; decide⟩
  · exact reads_at_block (cs := [.slice (some ⟨w.heap.size, 0, none⟩) a.length a.length, .slice (some ⟨w.heap.size + 1, 0, none⟩) b.length b.length, .slice (some ⟨w.heap.size + 1 + 1, 0, none⟩) c.length c.length]) g3 (by omega)
  · simp only [List.mem_cons, List.not_mem_nil, or_false] at hr
    rcases hr with rfl | rfl | rfl
    · have := reads_at_block g0 (B := (C.litW w a b c).heap.size) (by omega)
      simp only [C.ns, List.length_map] at this
      exact ⟨this, ha⟩
    · have := reads_at_block g1 (B := (C.litW w a b c).heap.size) (by omega)
      simp only [C.ns, List.length_map] at this
      exact ⟨this, hb⟩
    · have := reads_at_block g2 (B := (C.litW w a b c).heap.size) (by omega)
      simp only [C.ns, List.length_map] at this
      exact ⟨this, hc⟩
set_option maxRecDepth 100000 in
set_option maxHeartbeats 8000000 in
theorem awake_any (w : World) : Calls Try.prog 10 #[] w fun e w' => e = .returned (.bool true) ∧ Below w.heap.size w w' := by
  have SV : Hid (∀ w0 : World, Calls Try.prog 11 #[.slice (some ⟨w0.heap.size + 1 + 1 + 1, 0, none⟩) 3 3] (C.litW w0 [4, 1, 3] [2, 0, 5] [3, 2, 2]) fun e w' => (∃ A c, e = .returned (.tuple #[.slice A 3 c, .int .i64 0]) ∧ Reads w' w'.heap.size 1 A 3 (C.ns [1, 0, 2])) ∧ Below w0.heap.size w0 w') := Lib.hid (fun w0 => by
    have hm := C.lit_mx w0 [4, 1, 3] [2, 0, 5] [3, 2, 2] (by decide) (by decide) (by decide)
    refine (Solve_any _ _ 3 _ _ hm (Nat.le_refl _)).mono ?_
    rintro e w' ⟨h1, h2⟩
    have hb := (C.lit_below w0 [4, 1, 3] [2, 0, 5] [3, 2, 2]).trans (h1.mono (C.lit_below w0 [4, 1, 3] [2, 0, 5] [3, 2, 2]).size)
    rcases h2 with ⟨hz, _⟩ | ⟨_, A, c, N, rfl, hr, hN⟩
    · exact absurd C.ex_sq hz
    · have he := C.ex_best hN
      refine ⟨⟨A, c, rfl, ?_⟩, hb⟩
      have hr' : Reads w' w'.heap.size 1 A 3 (C.ns (C.asg 3 N)) := hr
      rw [he] at hr'
      exact hr')
  have TT : Hid (∀ (w0 : World) (A : Option Addr) (c : Nat), Reads w0 w0.heap.size 1 A 3 (C.ns [1, 0, 2]) → Calls Try.prog 13 #[.slice (some ⟨w0.heap.size + 1 + 1 + 1, 0, none⟩) 3 3, .slice A 3 c] (C.litW w0 [4, 1, 3] [2, 0, 5] [3, 2, 2]) fun e w' => e = .returned (.tuple #[.int .i64 5, .int .i64 0]) ∧ Below w0.heap.size w0 w') := Lib.hid (fun w0 A c hr => by
    have hm := C.lit_mx w0 [4, 1, 3] [2, 0, 5] [3, 2, 2] (by decide) (by decide) (by decide)
    have hb := C.lit_below w0 [4, 1, 3] [2, 0, 5] [3, 2, 2]
    refine (Total_any _ _ A 3 c _ [1, 0, 2] _ hm ((hr.below hb (Nat.le_refl _)).more hb.size) (by decide) (Nat.le_refl _)).mono ?_
    rintro e w' ⟨rfl, h1⟩
    exact ⟨rfl, hb.trans (h1.mono hb.size)⟩)
  have SM : Hid (∀ (w0 : World) (A : Option Addr) (c : Nat), Reads w0 w0.heap.size 1 A 3 (C.ns [1, 0, 2]) → Calls Try.prog 15 #[.slice A 3 c, .slice (some ⟨w0.heap.size, 0, none⟩) 3 3] (w0.alloc (.cells #[.int .i64 1, .int .i64 0, .int .i64 2] 3)) fun e w' => e = .returned (.bool true) ∧ Below w0.heap.size w0 w') := Lib.hid (fun w0 A c hr => by
    have hb : Below w0.heap.size w0 (w0.alloc (.cells #[.int .i64 1, .int .i64 0, .int .i64 2] 3)) := (Below.refl _ _).alloc (Nat.le_refl _) _
    have hr2 := (hr.below hb (Nat.le_refl _)).more (B' := (w0.alloc (.cells #[.int .i64 1, .int .i64 0, .int .i64 2] 3)).heap.size) hb.size
    have hr3 := reads_new w0 [.int .i64 1, .int .i64 0, .int .i64 2] 3
    refine (sameints_any _ A _ c 3 [1, 0, 2] [1, 0, 2] _ hr2 hr3 (by decide) (by decide)).mono ?_
    rintro e w' ⟨rfl, n, rfl⟩
    exact ⟨rfl, below_drewN hb n⟩)
  have LW : Hid (∀ w0 : World, (((w0.alloc (.cells #[.int .i64 4, .int .i64 1, .int .i64 3] 3)).alloc (.cells #[.int .i64 2, .int .i64 0, .int .i64 5] 3)).alloc (.cells #[.int .i64 3, .int .i64 2, .int .i64 2] 3)).alloc (.cells #[.slice (some ⟨w0.heap.size, 0, none⟩) 3 3, .slice (some ⟨w0.heap.size + 1, 0, none⟩) 3 3, .slice (some ⟨w0.heap.size + 1 + 1, 0, none⟩) 3 3] 23) = C.litW w0 [4, 1, 3] [2, 0, 5] [3, 2, 2]) := Lib.hid (fun _ => rfl)
  go_enter Try.func10, Try.ntmps10
  go_wp2_with fail
  refine (SV.out w).mono ?_
  rintro e' w1 ⟨⟨A1, c1, rfl, hr1⟩, b1⟩
  have HR1 := Lib.hid hr1
  have B1 := Lib.hid b1
  clear hr1 b1 SV
  go_wp2_with fail
  refine (TT.out w1 A1 c1 HR1.out).mono ?_
  rintro e' w2 ⟨rfl, b2⟩
  have HR2 := Lib.hid ((HR1.out.below b2 (Nat.le_refl _)).more b2.size)
  have B2 := Lib.hid (B1.out.trans (b2.mono B1.out.size))
  clear b2 TT HR1 B1
  go_wp2_with fail
  refine (SM.out w2 A1 c1 HR2.out).mono ?_
  rintro e' w3 ⟨rfl, b3⟩
  have B3 := Lib.hid (B2.out.trans (b3.mono B2.out.size))
  clear b3 SM HR2 B2
  go_wp2_with fail
  go_ret
  exact ⟨rfl, B3.out⟩
end Go.Proofs.Ytnekhlklflgodaa
