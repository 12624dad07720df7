/-
  The walks of layer 16: the law's own example. By an AI agent.
-/
import Derived.Test.YtpigimmgadcogaaSme
namespace Go.Proofs.Ytpigimmgadcogaa
open Go.RowKit

theorem common_any (A1 A2 : Option Addr) (c1 c2 B : Nat) (a b : List Int) (w : World) (ha : Reads w B 1 A1 a.length (E.ns a)) (hb : Reads w B 1 A2 b.length (E.ns b)) (hB : B ≤ w.heap.size) (hna : a.length ≤ 1000) (hnb : b.length ≤ 1000) :
    Calls Try.prog 20 #[.slice A1 a.length c1, .slice A2 b.length c2] w fun e W' => ∃ A c, e = .returned (.slice A (E.common a b).length c) ∧ Reads W' W'.heap.size 1 A (E.common a b).length (E.ns (E.common a b)) ∧ Below w.heap.size w W' := by
  refine (common_in A1 A2 c1 c2 B a b w ha hb hB hna hnb).mono ?_
  rintro e w' ⟨v, rfl, hown, hb⟩
  obtain ⟨A, c, rfl, hr⟩ := own_reads hown
  exact ⟨A, c, rfl, hr, hb⟩
/-- Edits that the call has made, read. -/
def E.Out (w W' : World) (e : Ending) (l : List (E.Ed Int)) : Prop := ∃ A c, ∃ es : List (E.Es Int), e = .returned (.slice A es.length c) ∧ E.Rd W' W'.heap.size A es ∧ es.map (·.ed) = l ∧ Below w.heap.size w W'
theorem E.script_small {a b : List Int} (hna : a.length ≤ 1000) (hnb : b.length ≤ 1000) : (E.script a b).length ≤ 2000 ∧ ∀ x ∈ E.script a b, x.ins.length ≤ 2000 := by
  have h := (E.sst_low b (E.ys a b)).1
  have hl := E.ys_len a b
  rw [E.sst_script] at h
  exact ⟨by have := h.1; omega, fun x hx => by have := (h.2 x hx).2.2.1; omega⟩
theorem script_any (A1 A2 : Option Addr) (c1 c2 B : Nat) (a b : List Int) (w : World) (ha : Reads w B 1 A1 a.length (E.ns a)) (hb : Reads w B 1 A2 b.length (E.ns b)) (hB : B ≤ w.heap.size) (hna : a.length ≤ 1000) (hnb : b.length ≤ 1000) :
    Calls Try.prog 17 #[.slice A1 a.length c1, .slice A2 b.length c2] w fun e W' => E.Out w W' e (E.script a b) := by
  refine (script_in A1 A2 c1 c2 B a b w ha hb hB hna hnb).mono ?_
  rintro e w' ⟨v, es, rfl, hE, hes, hb⟩
  obtain ⟨A, c, rfl, hr⟩ := E.Eds.rd hE (fun x hx => by have := (E.script_small hna hnb).2 x.ed (by rw [← hes]; exact List.mem_map.2 ⟨x, hx, rfl⟩); omega)
  exact ⟨A, c, es, rfl, hr, hes, hb⟩
theorem plain_out (A : Option Addr) (c B : Nat) (xs : List (E.Es Int)) (w : World) (hr : E.Rd w B A xs) (hB : B ≤ w.heap.size) (hl : xs.length ≤ 100000) :
    Calls Try.prog 16 #[.slice A xs.length c] w fun e W' => E.Out w W' e (xs.map (·.ed)) := by
  refine (plain_any A c B xs w hr.row hr.sl hB hl).mono ?_
  rintro e w' ⟨v, rfl, hown, hb⟩
  obtain ⟨A', c', rfl, hr'⟩ := (hr.below hb hB).of_own (Below.refl _ _) hown (Nat.le_trans hB hb.size)
  exact ⟨A', c', xs, rfl, hr', rfl, hb⟩
theorem edits_out (A : Option Addr) (c B : Nat) (xs : List (E.Es Int)) (w : World) (hr : E.Rd w B A xs) (hB : B ≤ w.heap.size) (hl : xs.length ≤ 100000) :
    Calls Try.prog 25 #[.slice A xs.length c] w fun e W' => E.Out w W' e (xs.map (·.ed)) := by
  refine (edits_any A c B xs w hr.row hr.sl hB hl).mono ?_
  rintro e w' ⟨v, rfl, hown, hb⟩
  obtain ⟨A', c', rfl, hr'⟩ := (hr.below hb hB).of_own (Below.refl _ _) hown (Nat.le_trans hB hb.size)
  exact ⟨A', c', xs, rfl, hr', rfl, hb⟩

theorem E.aw_dist : E.dist [1, 2, 3, 4] ([2, 9, 4, 5] : List Int) = 4 := by decide
theorem E.aw_script : E.script [1, 2, 3, 4] ([2, 9, 4, 5] : List Int) = [⟨0, 1, []⟩, ⟨2, 1, [9]⟩, ⟨4, 0, [5]⟩] := by rfl
theorem E.aw_common : E.common [1, 2, 3, 4] ([2, 9, 4, 5] : List Int) = [2, 4] := by rfl

set_option maxRecDepth 10000 in
set_option maxHeartbeats 4000000 in
theorem awake_any (w : World) : Calls Try.prog 12 #[] w fun e w' => e = .returned (.bool true) ∧ Below w.heap.size w w' := by
  have hb0 : Below w.heap.size w (((((w.alloc (.cells #[.int .i64 1, .int .i64 2, .int .i64 3, .int .i64 4] 3)).alloc (.cells #[.int .i64 2, .int .i64 9, .int .i64 4, .int .i64 5] 3)).alloc (.cells #[.int .i64 9] 3)).alloc (.cells #[.int .i64 5] 3)).alloc (.cells #[.int .i64 0, .int .i64 1, .slice none 0 0, .int .i64 2, .int .i64 1, .slice (some ⟨w.heap.size + 1 + 1, 0, none⟩) 1 1, .int .i64 4, .int .i64 0, .slice (some ⟨w.heap.size + 1 + 1 + 1, 0, none⟩) 1 1] 37)) := (((((Below.refl _ w).alloc (Nat.le_refl _) (.cells #[.int .i64 1, .int .i64 2, .int .i64 3, .int .i64 4] 3)).alloc (by simp) (.cells #[.int .i64 2, .int .i64 9, .int .i64 4, .int .i64 5] 3)).alloc (by simp <;> omega) (.cells #[.int .i64 9] 3)).alloc (by simp <;> omega) (.cells #[.int .i64 5] 3)).alloc (by simp <;> omega) (.cells #[.int .i64 0, .int .i64 1, .slice none 0 0, .int .i64 2, .int .i64 1, .slice (some ⟨w.heap.size + 1 + 1, 0, none⟩) 1 1, .int .i64 4, .int .i64 0, .slice (some ⟨w.heap.size + 1 + 1 + 1, 0, none⟩) 1 1] 37)
  have ra : Reads (((((w.alloc (.cells #[.int .i64 1, .int .i64 2, .int .i64 3, .int .i64 4] 3)).alloc (.cells #[.int .i64 2, .int .i64 9, .int .i64 4, .int .i64 5] 3)).alloc (.cells #[.int .i64 9] 3)).alloc (.cells #[.int .i64 5] 3)).alloc (.cells #[.int .i64 0, .int .i64 1, .slice none 0 0, .int .i64 2, .int .i64 1, .slice (some ⟨w.heap.size + 1 + 1, 0, none⟩) 1 1, .int .i64 4, .int .i64 0, .slice (some ⟨w.heap.size + 1 + 1 + 1, 0, none⟩) 1 1] 37)) (((((w.alloc (.cells #[.int .i64 1, .int .i64 2, .int .i64 3, .int .i64 4] 3)).alloc (.cells #[.int .i64 2, .int .i64 9, .int .i64 4, .int .i64 5] 3)).alloc (.cells #[.int .i64 9] 3)).alloc (.cells #[.int .i64 5] 3)).alloc (.cells #[.int .i64 0, .int .i64 1, .slice none 0 0, .int .i64 2, .int .i64 1, .slice (some ⟨w.heap.size + 1 + 1, 0, none⟩) 1 1, .int .i64 4, .int .i64 0, .slice (some ⟨w.heap.size + 1 + 1 + 1, 0, none⟩) 1 1] 37)).heap.size 1 (some ⟨w.heap.size, 0, none⟩) 4 (E.ns [1, 2, 3, 4]) := (((((reads_block_at w [.int .i64 1, .int .i64 2, .int .i64 3, .int .i64 4] 3 1 4 rfl (N := w.heap.size) (by simp)).alloc (Nat.le_refl _) (.cells #[.int .i64 2, .int .i64 9, .int .i64 4, .int .i64 5] 3)).alloc (by simp <;> omega) (.cells #[.int .i64 9] 3)).alloc (by simp <;> omega) (.cells #[.int .i64 5] 3)).alloc (by simp <;> omega) (.cells #[.int .i64 0, .int .i64 1, .slice none 0 0, .int .i64 2, .int .i64 1, .slice (some ⟨w.heap.size + 1 + 1, 0, none⟩) 1 1, .int .i64 4, .int .i64 0, .slice (some ⟨w.heap.size + 1 + 1 + 1, 0, none⟩) 1 1] 37)).more (B' := (((((w.alloc (.cells #[.int .i64 1, .int .i64 2, .int .i64 3, .int .i64 4] 3)).alloc (.cells #[.int .i64 2, .int .i64 9, .int .i64 4, .int .i64 5] 3)).alloc (.cells #[.int .i64 9] 3)).alloc (.cells #[.int .i64 5] 3)).alloc (.cells #[.int .i64 0, .int .i64 1, .slice none 0 0, .int .i64 2, .int .i64 1, .slice (some ⟨w.heap.size + 1 + 1, 0, none⟩) 1 1, .int .i64 4, .int .i64 0, .slice (some ⟨w.heap.size + 1 + 1 + 1, 0, none⟩) 1 1] 37)).heap.size) (by simp)
  have rb : Reads (((((w.alloc (.cells #[.int .i64 1, .int .i64 2, .int .i64 3, .int .i64 4] 3)).alloc (.cells #[.int .i64 2, .int .i64 9, .int .i64 4, .int .i64 5] 3)).alloc (.cells #[.int .i64 9] 3)).alloc (.cells #[.int .i64 5] 3)).alloc (.cells #[.int .i64 0, .int .i64 1, .slice none 0 0, .int .i64 2, .int .i64 1, .slice (some ⟨w.heap.size + 1 + 1, 0, none⟩) 1 1, .int .i64 4, .int .i64 0, .slice (some ⟨w.heap.size + 1 + 1 + 1, 0, none⟩) 1 1] 37)) (((((w.alloc (.cells #[.int .i64 1, .int .i64 2, .int .i64 3, .int .i64 4] 3)).alloc (.cells #[.int .i64 2, .int .i64 9, .int .i64 4, .int .i64 5] 3)).alloc (.cells #[.int .i64 9] 3)).alloc (.cells #[.int .i64 5] 3)).alloc (.cells #[.int .i64 0, .int .i64 1, .slice none 0 0, .int .i64 2, .int .i64 1, .slice (some ⟨w.heap.size + 1 + 1, 0, none⟩) 1 1, .int .i64 4, .int .i64 0, .slice (some ⟨w.heap.size + 1 + 1 + 1, 0, none⟩) 1 1] 37)).heap.size 1 (some ⟨w.heap.size + 1, 0, none⟩) 4 (E.ns [2, 9, 4, 5]) := ((((reads_block_at (w.alloc (.cells #[.int .i64 1, .int .i64 2, .int .i64 3, .int .i64 4] 3)) [.int .i64 2, .int .i64 9, .int .i64 4, .int .i64 5] 3 1 4 rfl (N := w.heap.size + 1) (by simp)).alloc (Nat.le_refl _) (.cells #[.int .i64 9] 3)).alloc (by simp <;> omega) (.cells #[.int .i64 5] 3)).alloc (by simp <;> omega) (.cells #[.int .i64 0, .int .i64 1, .slice none 0 0, .int .i64 2, .int .i64 1, .slice (some ⟨w.heap.size + 1 + 1, 0, none⟩) 1 1, .int .i64 4, .int .i64 0, .slice (some ⟨w.heap.size + 1 + 1 + 1, 0, none⟩) 1 1] 37)).more (B' := (((((w.alloc (.cells #[.int .i64 1, .int .i64 2, .int .i64 3, .int .i64 4] 3)).alloc (.cells #[.int .i64 2, .int .i64 9, .int .i64 4, .int .i64 5] 3)).alloc (.cells #[.int .i64 9] 3)).alloc (.cells #[.int .i64 5] 3)).alloc (.cells #[.int .i64 0, .int .i64 1, .slice none 0 0, .int .i64 2, .int .i64 1, .slice (some ⟨w.heap.size + 1 + 1, 0, none⟩) 1 1, .int .i64 4, .int .i64 0, .slice (some ⟨w.heap.size + 1 + 1 + 1, 0, none⟩) 1 1] 37)).heap.size) (by simp)
  have r9 : Reads (((((w.alloc (.cells #[.int .i64 1, .int .i64 2, .int .i64 3, .int .i64 4] 3)).alloc (.cells #[.int .i64 2, .int .i64 9, .int .i64 4, .int .i64 5] 3)).alloc (.cells #[.int .i64 9] 3)).alloc (.cells #[.int .i64 5] 3)).alloc (.cells #[.int .i64 0, .int .i64 1, .slice none 0 0, .int .i64 2, .int .i64 1, .slice (some ⟨w.heap.size + 1 + 1, 0, none⟩) 1 1, .int .i64 4, .int .i64 0, .slice (some ⟨w.heap.size + 1 + 1 + 1, 0, none⟩) 1 1] 37)) (((((w.alloc (.cells #[.int .i64 1, .int .i64 2, .int .i64 3, .int .i64 4] 3)).alloc (.cells #[.int .i64 2, .int .i64 9, .int .i64 4, .int .i64 5] 3)).alloc (.cells #[.int .i64 9] 3)).alloc (.cells #[.int .i64 5] 3)).alloc (.cells #[.int .i64 0, .int .i64 1, .slice none 0 0, .int .i64 2, .int .i64 1, .slice (some ⟨w.heap.size + 1 + 1, 0, none⟩) 1 1, .int .i64 4, .int .i64 0, .slice (some ⟨w.heap.size + 1 + 1 + 1, 0, none⟩) 1 1] 37)).heap.size 1 (some ⟨w.heap.size + 1 + 1, 0, none⟩) 1 (E.ns [9]) := (((reads_block_at ((w.alloc (.cells #[.int .i64 1, .int .i64 2, .int .i64 3, .int .i64 4] 3)).alloc (.cells #[.int .i64 2, .int .i64 9, .int .i64 4, .int .i64 5] 3)) [.int .i64 9] 3 1 1 rfl (N := w.heap.size + 1 + 1) (by simp)).alloc (Nat.le_refl _) (.cells #[.int .i64 5] 3)).alloc (by simp <;> omega) (.cells #[.int .i64 0, .int .i64 1, .slice none 0 0, .int .i64 2, .int .i64 1, .slice (some ⟨w.heap.size + 1 + 1, 0, none⟩) 1 1, .int .i64 4, .int .i64 0, .slice (some ⟨w.heap.size + 1 + 1 + 1, 0, none⟩) 1 1] 37)).more (B' := (((((w.alloc (.cells #[.int .i64 1, .int .i64 2, .int .i64 3, .int .i64 4] 3)).alloc (.cells #[.int .i64 2, .int .i64 9, .int .i64 4, .int .i64 5] 3)).alloc (.cells #[.int .i64 9] 3)).alloc (.cells #[.int .i64 5] 3)).alloc (.cells #[.int .i64 0, .int .i64 1, .slice none 0 0, .int .i64 2, .int .i64 1, .slice (some ⟨w.heap.size + 1 + 1, 0, none⟩) 1 1, .int .i64 4, .int .i64 0, .slice (some ⟨w.heap.size + 1 + 1 + 1, 0, none⟩) 1 1] 37)).heap.size) (by simp)
  have r5 : Reads (((((w.alloc (.cells #[.int .i64 1, .int .i64 2, .int .i64 3, .int .i64 4] 3)).alloc (.cells #[.int .i64 2, .int .i64 9, .int .i64 4, .int .i64 5] 3)).alloc (.cells #[.int .i64 9] 3)).alloc (.cells #[.int .i64 5] 3)).alloc (.cells #[.int .i64 0, .int .i64 1, .slice none 0 0, .int .i64 2, .int .i64 1, .slice (some ⟨w.heap.size + 1 + 1, 0, none⟩) 1 1, .int .i64 4, .int .i64 0, .slice (some ⟨w.heap.size + 1 + 1 + 1, 0, none⟩) 1 1] 37)) (((((w.alloc (.cells #[.int .i64 1, .int .i64 2, .int .i64 3, .int .i64 4] 3)).alloc (.cells #[.int .i64 2, .int .i64 9, .int .i64 4, .int .i64 5] 3)).alloc (.cells #[.int .i64 9] 3)).alloc (.cells #[.int .i64 5] 3)).alloc (.cells #[.int .i64 0, .int .i64 1, .slice none 0 0, .int .i64 2, .int .i64 1, .slice (some ⟨w.heap.size + 1 + 1, 0, none⟩) 1 1, .int .i64 4, .int .i64 0, .slice (some ⟨w.heap.size + 1 + 1 + 1, 0, none⟩) 1 1] 37)).heap.size 1 (some ⟨w.heap.size + 1 + 1 + 1, 0, none⟩) 1 (E.ns [5]) := ((reads_block_at (((w.alloc (.cells #[.int .i64 1, .int .i64 2, .int .i64 3, .int .i64 4] 3)).alloc (.cells #[.int .i64 2, .int .i64 9, .int .i64 4, .int .i64 5] 3)).alloc (.cells #[.int .i64 9] 3)) [.int .i64 5] 3 1 1 rfl (N := w.heap.size + 1 + 1 + 1) (by simp)).alloc (Nat.le_refl _) (.cells #[.int .i64 0, .int .i64 1, .slice none 0 0, .int .i64 2, .int .i64 1, .slice (some ⟨w.heap.size + 1 + 1, 0, none⟩) 1 1, .int .i64 4, .int .i64 0, .slice (some ⟨w.heap.size + 1 + 1 + 1, 0, none⟩) 1 1] 37)).more (B' := (((((w.alloc (.cells #[.int .i64 1, .int .i64 2, .int .i64 3, .int .i64 4] 3)).alloc (.cells #[.int .i64 2, .int .i64 9, .int .i64 4, .int .i64 5] 3)).alloc (.cells #[.int .i64 9] 3)).alloc (.cells #[.int .i64 5] 3)).alloc (.cells #[.int .i64 0, .int .i64 1, .slice none 0 0, .int .i64 2, .int .i64 1, .slice (some ⟨w.heap.size + 1 + 1, 0, none⟩) 1 1, .int .i64 4, .int .i64 0, .slice (some ⟨w.heap.size + 1 + 1 + 1, 0, none⟩) 1 1] 37)).heap.size) (by simp)
  have rw_ : E.Rd (((((w.alloc (.cells #[.int .i64 1, .int .i64 2, .int .i64 3, .int .i64 4] 3)).alloc (.cells #[.int .i64 2, .int .i64 9, .int .i64 4, .int .i64 5] 3)).alloc (.cells #[.int .i64 9] 3)).alloc (.cells #[.int .i64 5] 3)).alloc (.cells #[.int .i64 0, .int .i64 1, .slice none 0 0, .int .i64 2, .int .i64 1, .slice (some ⟨w.heap.size + 1 + 1, 0, none⟩) 1 1, .int .i64 4, .int .i64 0, .slice (some ⟨w.heap.size + 1 + 1 + 1, 0, none⟩) 1 1] 37)) (((((w.alloc (.cells #[.int .i64 1, .int .i64 2, .int .i64 3, .int .i64 4] 3)).alloc (.cells #[.int .i64 2, .int .i64 9, .int .i64 4, .int .i64 5] 3)).alloc (.cells #[.int .i64 9] 3)).alloc (.cells #[.int .i64 5] 3)).alloc (.cells #[.int .i64 0, .int .i64 1, .slice none 0 0, .int .i64 2, .int .i64 1, .slice (some ⟨w.heap.size + 1 + 1, 0, none⟩) 1 1, .int .i64 4, .int .i64 0, .slice (some ⟨w.heap.size + 1 + 1 + 1, 0, none⟩) 1 1] 37)).heap.size (some ⟨w.heap.size + 1 + 1 + 1 + 1, 0, none⟩) [⟨⟨0, 1, []⟩, .slice none 0 0⟩, ⟨⟨2, 1, [9]⟩, .slice (some ⟨w.heap.size + 1 + 1, 0, none⟩) 1 1⟩, ⟨⟨4, 0, [5]⟩, .slice (some ⟨w.heap.size + 1 + 1 + 1, 0, none⟩) 1 1⟩] := ⟨(reads_block_at ((((w.alloc (.cells #[.int .i64 1, .int .i64 2, .int .i64 3, .int .i64 4] 3)).alloc (.cells #[.int .i64 2, .int .i64 9, .int .i64 4, .int .i64 5] 3)).alloc (.cells #[.int .i64 9] 3)).alloc (.cells #[.int .i64 5] 3)) [.int .i64 0, .int .i64 1, .slice none 0 0, .int .i64 2, .int .i64 1, .slice (some ⟨w.heap.size + 1 + 1, 0, none⟩) 1 1, .int .i64 4, .int .i64 0, .slice (some ⟨w.heap.size + 1 + 1 + 1, 0, none⟩) 1 1] 37 3 3 rfl (N := w.heap.size + 1 + 1 + 1 + 1) (by simp)), fun x hx => by
    simp only [List.mem_cons, List.not_mem_nil, or_false] at hx
    rcases hx with rfl | rfl | rfl
    · exact ⟨none, 0, rfl, Reads.none_, by decide⟩
    · exact ⟨_, _, rfl, r9, by simp⟩
    · exact ⟨_, _, rfl, r5, by simp⟩⟩
  clear r9 r5
  have D : Hid (∀ W, Below (((((w.alloc (.cells #[.int .i64 1, .int .i64 2, .int .i64 3, .int .i64 4] 3)).alloc (.cells #[.int .i64 2, .int .i64 9, .int .i64 4, .int .i64 5] 3)).alloc (.cells #[.int .i64 9] 3)).alloc (.cells #[.int .i64 5] 3)).alloc (.cells #[.int .i64 0, .int .i64 1, .slice none 0 0, .int .i64 2, .int .i64 1, .slice (some ⟨w.heap.size + 1 + 1, 0, none⟩) 1 1, .int .i64 4, .int .i64 0, .slice (some ⟨w.heap.size + 1 + 1 + 1, 0, none⟩) 1 1] 37)).heap.size (((((w.alloc (.cells #[.int .i64 1, .int .i64 2, .int .i64 3, .int .i64 4] 3)).alloc (.cells #[.int .i64 2, .int .i64 9, .int .i64 4, .int .i64 5] 3)).alloc (.cells #[.int .i64 9] 3)).alloc (.cells #[.int .i64 5] 3)).alloc (.cells #[.int .i64 0, .int .i64 1, .slice none 0 0, .int .i64 2, .int .i64 1, .slice (some ⟨w.heap.size + 1 + 1, 0, none⟩) 1 1, .int .i64 4, .int .i64 0, .slice (some ⟨w.heap.size + 1 + 1 + 1, 0, none⟩) 1 1] 37)) W → Calls Try.prog 13 #[.slice (some ⟨w.heap.size, 0, none⟩) 4 4, .slice (some ⟨w.heap.size + 1, 0, none⟩) 4 4] W fun e w' => e = .returned (.int .i64 4) ∧ Below W.heap.size W w') := Lib.hid (fun W hb => by
    have := dist_any _ _ 4 4 _ [1, 2, 3, 4] [2, 9, 4, 5] W (ra.below hb (Nat.le_refl _)) (rb.below hb (Nat.le_refl _)) hb.size (by decide) (by decide)
    rw [E.aw_dist] at this
    exact this)
  have S : Hid (∀ W, Below (((((w.alloc (.cells #[.int .i64 1, .int .i64 2, .int .i64 3, .int .i64 4] 3)).alloc (.cells #[.int .i64 2, .int .i64 9, .int .i64 4, .int .i64 5] 3)).alloc (.cells #[.int .i64 9] 3)).alloc (.cells #[.int .i64 5] 3)).alloc (.cells #[.int .i64 0, .int .i64 1, .slice none 0 0, .int .i64 2, .int .i64 1, .slice (some ⟨w.heap.size + 1 + 1, 0, none⟩) 1 1, .int .i64 4, .int .i64 0, .slice (some ⟨w.heap.size + 1 + 1 + 1, 0, none⟩) 1 1] 37)).heap.size (((((w.alloc (.cells #[.int .i64 1, .int .i64 2, .int .i64 3, .int .i64 4] 3)).alloc (.cells #[.int .i64 2, .int .i64 9, .int .i64 4, .int .i64 5] 3)).alloc (.cells #[.int .i64 9] 3)).alloc (.cells #[.int .i64 5] 3)).alloc (.cells #[.int .i64 0, .int .i64 1, .slice none 0 0, .int .i64 2, .int .i64 1, .slice (some ⟨w.heap.size + 1 + 1, 0, none⟩) 1 1, .int .i64 4, .int .i64 0, .slice (some ⟨w.heap.size + 1 + 1 + 1, 0, none⟩) 1 1] 37)) W → Calls Try.prog 17 #[.slice (some ⟨w.heap.size, 0, none⟩) 4 4, .slice (some ⟨w.heap.size + 1, 0, none⟩) 4 4] W fun e w' => E.Out W w' e [⟨0, 1, []⟩, ⟨2, 1, [9]⟩, ⟨4, 0, [5]⟩]) := Lib.hid (fun W hb => by
    have := script_any _ _ 4 4 _ [1, 2, 3, 4] [2, 9, 4, 5] W (ra.below hb (Nat.le_refl _)) (rb.below hb (Nat.le_refl _)) hb.size (by decide) (by decide)
    rw [E.aw_script] at this
    exact this)
  have C : Hid (∀ W, Below (((((w.alloc (.cells #[.int .i64 1, .int .i64 2, .int .i64 3, .int .i64 4] 3)).alloc (.cells #[.int .i64 2, .int .i64 9, .int .i64 4, .int .i64 5] 3)).alloc (.cells #[.int .i64 9] 3)).alloc (.cells #[.int .i64 5] 3)).alloc (.cells #[.int .i64 0, .int .i64 1, .slice none 0 0, .int .i64 2, .int .i64 1, .slice (some ⟨w.heap.size + 1 + 1, 0, none⟩) 1 1, .int .i64 4, .int .i64 0, .slice (some ⟨w.heap.size + 1 + 1 + 1, 0, none⟩) 1 1] 37)).heap.size (((((w.alloc (.cells #[.int .i64 1, .int .i64 2, .int .i64 3, .int .i64 4] 3)).alloc (.cells #[.int .i64 2, .int .i64 9, .int .i64 4, .int .i64 5] 3)).alloc (.cells #[.int .i64 9] 3)).alloc (.cells #[.int .i64 5] 3)).alloc (.cells #[.int .i64 0, .int .i64 1, .slice none 0 0, .int .i64 2, .int .i64 1, .slice (some ⟨w.heap.size + 1 + 1, 0, none⟩) 1 1, .int .i64 4, .int .i64 0, .slice (some ⟨w.heap.size + 1 + 1 + 1, 0, none⟩) 1 1] 37)) W → Calls Try.prog 20 #[.slice (some ⟨w.heap.size, 0, none⟩) 4 4, .slice (some ⟨w.heap.size + 1, 0, none⟩) 4 4] W fun e W' => ∃ A c, e = .returned (.slice A 2 c) ∧ Reads W' W'.heap.size 1 A 2 (E.ns [2, 4]) ∧ Below W.heap.size W W') := Lib.hid (fun W hb => by
    have := common_any _ _ 4 4 _ [1, 2, 3, 4] [2, 9, 4, 5] W (ra.below hb (Nat.le_refl _)) (rb.below hb (Nat.le_refl _)) hb.size (by decide) (by decide)
    rw [E.aw_common] at this
    exact this)
  have RW := Lib.hid rw_
  clear ra rb rw_
  go_enter Try.func12, Try.ntmps12
  go_wp2_with fail
  generalize hW : (((((w.alloc (.cells #[.int .i64 1, .int .i64 2, .int .i64 3, .int .i64 4] 3)).alloc (.cells #[.int .i64 2, .int .i64 9, .int .i64 4, .int .i64 5] 3)).alloc (.cells #[.int .i64 9] 3)).alloc (.cells #[.int .i64 5] 3)).alloc (.cells #[.int .i64 0, .int .i64 1, .slice none 0 0, .int .i64 2, .int .i64 1, .slice (some ⟨w.heap.size + 1 + 1, 0, none⟩) 1 1, .int .i64 4, .int .i64 0, .slice (some ⟨w.heap.size + 1 + 1 + 1, 0, none⟩) 1 1] 37)) = W0 at *
  clear hW
  refine (D.out _ (Below.refl _ _)).mono ?_
  rintro e w1 ⟨rfl, b1⟩
  go_wp2_with fail
  refine (S.out _ b1).mono ?_
  rintro e w2 ⟨A2, k2, es, rfl, r2, e2, b2⟩
  have hl2 : Hid (es.length = 3) := Lib.hid (by have := congrArg List.length e2; simpa using this)
  have e2 := Lib.hid e2
  have hb2 := b1.trans (b2.mono b1.size)
  go_wp2_with fail
  refine (plain_out A2 k2 _ es w2 r2 (Nat.le_refl _) (by have := hl2.out; omega)).mono ?_
  rintro e w3 ⟨A3, k3, es3, rfl, r3, e3, b3⟩
  rw [e2.out] at e3
  have hb3 := hb2.trans (b3.mono hb2.size)
  have hl3 : Hid (es3.length = 3) := Lib.hid (by have := congrArg List.length e3; simpa using this)
  have SM := same_any A3 (some ⟨w.heap.size + 1 + 1 + 1 + 1, 0, none⟩) k3 3 w3.heap.size es3 [⟨⟨0, 1, []⟩, .slice none 0 0⟩, ⟨⟨2, 1, [9]⟩, .slice (some ⟨w.heap.size + 1 + 1, 0, none⟩) 1 1⟩, ⟨⟨4, 0, [5]⟩, .slice (some ⟨w.heap.size + 1 + 1 + 1, 0, none⟩) 1 1⟩] w3 r3 ((RW.out.below hb3 (Nat.le_refl _)).more hb3.size) (by have := hl3.out; omega) (by simp)
  rw [decide_eq_true (by rw [e3]; rfl)] at SM
  have SM := Lib.hid SM
  have e3 := Lib.hid e3
  go_wp2_with fail
  refine SM.out.mono ?_
  rintro e w4 ⟨rfl, n, rfl⟩
  have hb4 := below_drewN hb3 n
  generalize w3.drewN n = w4 at *
  go_wp2_with fail
  refine (C.out _ hb4).mono ?_
  rintro e w5 ⟨A5, k5, rfl, r5, b5⟩
  have hb5 := hb4.trans (b5.mono hb4.size)
  go_wp2_with fail
  have r24 := reads_new w5 [.int .i64 2, .int .i64 4] 3
  have SI := sameints_any A5 (some ⟨w5.heap.size, 0, none⟩) k5 2 (w5.alloc (.cells #[.int .i64 2, .int .i64 4] 3)).heap.size [2, 4] [2, 4] _ ((r5.alloc (Nat.le_refl _) _).more (by simp)) r24 (by decide) (by decide)
  refine SI.mono ?_
  rintro e w6 ⟨rfl, n6, rfl⟩
  go_wp2_with fail
  go_ret
  exact ⟨rfl, below_drewN ((hb0.trans (hb5.mono hb0.size)).alloc (Nat.le_trans hb0.size hb5.size) _) _⟩
end Go.Proofs.Ytpigimmgadcogaa
