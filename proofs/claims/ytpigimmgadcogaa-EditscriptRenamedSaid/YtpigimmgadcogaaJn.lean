/-
  The walks of layer 16: slices joined. By an AI agent.
-/
import Derived.Test.YtpigimmgadcogaaLw1
namespace Go.Proofs.Ytpigimmgadcogaa
open Go.RowKit

namespace E
/-- Slices in memory: address, capacity, elements. -/
def jl (x : Option Addr × Nat × List Int) : Value := .slice x.1 x.2.2.length x.2.1
theorem ns_append (a b : List Int) : ns (a ++ b) = ns a ++ ns b := by simp [ns]
def cat (xs : List (Option Addr × Nat × List Int)) : List Int := xs.flatMap (·.2.2)
theorem cat_step {xs : List (Option Addr × Nat × List Int)} {k : Nat} (h : k < xs.length) : cat (xs.take (k + 1)) = cat (xs.take k) ++ xs[k].2.2 := by
  unfold cat
  rw [List.take_succ_eq_append_getElem h, List.flatMap_append]; simp
end E

set_option maxRecDepth 10000 in
set_option maxHeartbeats 4000000 in
theorem joined_any (A : Option Addr) (c B : Nat) (xs : List (Option Addr × Nat × List Int)) (w : World) (hr : Reads w B 1 A xs.length (xs.map E.jl)) (hx : ∀ x ∈ xs, Reads w B 1 x.1 x.2.2.length (E.ns x.2.2) ∧ x.2.2.length ≤ 30) (hB : B ≤ w.heap.size) (hl : xs.length ≤ 10) :
    Calls Try.prog 22 #[.slice A xs.length c] w fun e W' => ∃ A' c', e = .returned (.slice A' (E.cat xs).length c') ∧ Reads W' W'.heap.size 1 A' (E.cat xs).length (E.ns (E.cat xs)) ∧ Below w.heap.size w W' := by
  have own0 := World.ownsRow_lit (base := w.heap.size) (e := 3) (size := 1) w #[] 0 (Nat.le_refl _) (by decide) rfl
  have hb0 : Below w.heap.size w (w.alloc (.cells #[] 3)) := (Below.refl _ _).alloc (Nat.le_refl _) _
  have OWN0 := Lib.hid own0
  have HR := Lib.hid hr
  have HX := Lib.hid hx
  clear own0 hr hx
  obtain ⟨i0, hi0, hz0, hz1, hz2⟩ := info_parts Try.info3
  go_enter Try.func22, Try.ntmps22
  go_wp2
  go_loopw [3, 9] (fun v i wr => ∃ k : Nat, k ≤ xs.length ∧ i = .int .i64 k ∧ (E.cat (xs.take k)).length ≤ k * 30 ∧ wr.ownsRow w.heap.size 3 1 v (E.cat (xs.take k)).length (E.ns (E.cat (xs.take k))) ∧ Below w.heap.size w wr) (fun _ i _ => xs.length - (intOf i).toNat)
  case atStart => exact ⟨0, Nat.zero_le _, rfl, by simp [E.cat], by simpa [E.ns, E.cat] using OWN0.out, hb0⟩
  case round =>
    clear hb0 OWN0
    obtain ⟨k, hk, rfl, hn, hown, hb⟩ := hrel
    by_cases hlt : k < xs.length
    · obtain ⟨b, off, rfl, hlo, hc⟩ := (HR.out.below hb hB).flat (by omega) (by decide)
      have x0 := hc k (E.jl xs[k]) (by simp [hlt])
      obtain ⟨hx1, hx2⟩ := HX.out xs[k] (List.getElem_mem hlt)
      have hx1 := hx1.below hb hB
      have HT := Lib.hid (E.cat_step hlt)
      have q1 : (k : Int) < (xs.length : Int) := by omega
      clear hc
      generalize xs[k] = x at *
      obtain ⟨x1, x2, x3⟩ := x
      unfold E.jl at x0
      dsimp only at *
      go_wp2_with (at_builtin; refine wpList_append_any _ rfl (.tmp 13) (.tmp 14) _ rfl w.heap.size 3 i0 _ 1 8 Try.underlying22 hi0 hz0 hz1 hz2 rfl (by decide) u3 _ _ rfl hown B x1 x3.length x2 _ rfl hx1 (by intro u hu; simp only [E.ns, List.mem_map] at hu; obtain ⟨z, _, rfl⟩ := hu; rfl) (by simp only [maxLen]; omega) (by omega) hb.size ?_; intro v' W2 hown' hgrow hnew; clear hnew)
      have hb2 : Below w.heap.size w W2 := hb.grown hgrow hb.size (own_below hown (Nat.le_refl _))
      rw [← E.ns_append, ← List.length_append, ← HT.out] at hown'
      have hn2 : (E.cat (xs.take (k + 1))).length ≤ (k + 1) * 30 := by rw [HT.out, List.length_append]; omega
      go_roundw
      case rel => exact ⟨k + 1, hlt, by go_num, hn2, hown', hb2⟩
      case measure => simp [intOf] <;> omega
    · obtain rfl : k = xs.length := by omega
      rw [List.take_length] at hown
      go_wp2
      obtain ⟨A', c', rfl, hr'⟩ := own_reads hown
      go_ret
      exact ⟨A', c', rfl, hr', hb⟩

theorem join3_any (A1 A2 A3 : Option Addr) (c1 c2 c3 B : Nat) (x y z : List Int) (w : World) (hx : Reads w B 1 A1 x.length (E.ns x)) (hy : Reads w B 1 A2 y.length (E.ns y)) (hz : Reads w B 1 A3 z.length (E.ns z)) (hB : B ≤ w.heap.size) (lx : x.length ≤ 30) (ly : y.length ≤ 30) (lz : z.length ≤ 30) :
    Calls Try.prog 22 #[.slice (some ⟨w.heap.size, 0, none⟩) 3 3] (w.alloc (.cells #[.slice A1 x.length c1, .slice A2 y.length c2, .slice A3 z.length c3] 22)) fun e W' => ∃ A' c', e = .returned (.slice A' (x ++ (y ++ z)).length c') ∧ Reads W' W'.heap.size 1 A' (x ++ (y ++ z)).length (E.ns (x ++ (y ++ z))) ∧ Below w.heap.size w W' := by
  have hb : Below w.heap.size w (w.alloc (.cells #[.slice A1 x.length c1, .slice A2 y.length c2, .slice A3 z.length c3] 22)) := (Below.refl _ _).alloc (Nat.le_refl _) _
  have k : ∀ (A : Option Addr) (l : List Int), Reads w B 1 A l.length (E.ns l) → Reads (w.alloc (.cells #[.slice A1 x.length c1, .slice A2 y.length c2, .slice A3 z.length c3] 22)) (w.alloc (.cells #[.slice A1 x.length c1, .slice A2 y.length c2, .slice A3 z.length c3] 22)).heap.size 1 A l.length (E.ns l) := fun A l h => (h.alloc hB _).more (by simp; omega)
  have := joined_any (some ⟨w.heap.size, 0, none⟩) 3 _ [(A1, c1, x), (A2, c2, y), (A3, c3, z)] _ (reads_new w [.slice A1 x.length c1, .slice A2 y.length c2, .slice A3 z.length c3] 22) (by
    intro u hu
    simp only [List.mem_cons, List.not_mem_nil, or_false] at hu
    rcases hu with rfl | rfl | rfl
    · exact ⟨k _ _ hx, lx⟩
    · exact ⟨k _ _ hy, ly⟩
    · exact ⟨k _ _ hz, lz⟩) (Nat.le_refl _) (by simp)
  refine this.mono ?_
  rintro e w' ⟨A', c', h1, h2, h3⟩
  rw [show E.cat ([(A1, c1, x), (A2, c2, y), (A3, c3, z)] : List (Option Addr × Nat × List Int)) = x ++ (y ++ z) by simp [E.cat]] at h1 h2
  exact ⟨A', c', h1, h2, hb.trans (h3.mono hb.size)⟩
theorem join2_any (A1 A2 : Option Addr) (c1 c2 B : Nat) (x y : List Int) (w : World) (hx : Reads w B 1 A1 x.length (E.ns x)) (hy : Reads w B 1 A2 y.length (E.ns y)) (hB : B ≤ w.heap.size) (lx : x.length ≤ 30) (ly : y.length ≤ 30) :
    Calls Try.prog 22 #[.slice (some ⟨w.heap.size, 0, none⟩) 2 2] (w.alloc (.cells #[.slice A1 x.length c1, .slice A2 y.length c2] 22)) fun e W' => ∃ A' c', e = .returned (.slice A' (x ++ y).length c') ∧ Reads W' W'.heap.size 1 A' (x ++ y).length (E.ns (x ++ y)) ∧ Below w.heap.size w W' := by
  have hb : Below w.heap.size w (w.alloc (.cells #[.slice A1 x.length c1, .slice A2 y.length c2] 22)) := (Below.refl _ _).alloc (Nat.le_refl _) _
  have k : ∀ (A : Option Addr) (l : List Int), Reads w B 1 A l.length (E.ns l) → Reads (w.alloc (.cells #[.slice A1 x.length c1, .slice A2 y.length c2] 22)) (w.alloc (.cells #[.slice A1 x.length c1, .slice A2 y.length c2] 22)).heap.size 1 A l.length (E.ns l) := fun A l h => (h.alloc hB _).more (by simp; omega)
  have := joined_any (some ⟨w.heap.size, 0, none⟩) 2 _ [(A1, c1, x), (A2, c2, y)] _ (reads_new w [.slice A1 x.length c1, .slice A2 y.length c2] 22) (by
    intro u hu
    simp only [List.mem_cons, List.not_mem_nil, or_false] at hu
    rcases hu with rfl | rfl
    · exact ⟨k _ _ hx, lx⟩
    · exact ⟨k _ _ hy, ly⟩) (Nat.le_refl _) (by simp)
  refine this.mono ?_
  rintro e w' ⟨A', c', h1, h2, h3⟩
  rw [show E.cat ([(A1, c1, x), (A2, c2, y)] : List (Option Addr × Nat × List Int)) = x ++ y by simp [E.cat]] at h1 h2
  exact ⟨A', c', h1, h2, hb.trans (h3.mono hb.size)⟩
end Go.Proofs.Ytpigimmgadcogaa
