/-
  The walks of layer 22: row, awake. By an AI agent.
-/
import Derived.Test.YthfpiomooomhoaaAwake
namespace Go.Proofs.Ythfpiomooomhoaa
open Go.RowKit

theorem infoGlyph : (Try.prog.info? 32).map (fun i => (i.zero, i.size, i.bytes)) = some (some (.agg #[.string ByteArray.empty, .bool false, .int .i64 0]), 3, 32) := by kernel_rfl

theorem own_any {w : World} {base : Nat} {e : TypeId} {size n : Nat} {v : Value} {xs : List Value} (h : w.ownsRow base e size v n xs) :
    ∃ A c, v = .slice A n c ∧ Reads w w.heap.size size A n xs := by
  rcases h.2 with ⟨rfl, h0⟩ | ⟨g, cap, cur, rfl, _⟩
  · subst h0
    have : xs = [] := List.eq_nil_of_length_eq_zero (by simpa using h.1)
    subst this
    exact ⟨none, 0, rfl, Reads.none_⟩
  · exact ⟨_, _, rfl, Reads.of_own h⟩

theorem reads_newS (w : World) (cs : List Value) (t : TypeId) (size m : Nat) (h : cs.length = m * size) (h0 : 0 < cs.length) : Reads (w.alloc (.cells cs.toArray t)) (w.alloc (.cells cs.toArray t)).heap.size size (some ⟨w.heap.size, 0, none⟩) m cs :=
  ⟨h, fun _ => (reads_new w cs t).2 h0⟩

/-- The row of the first k bytes. -/
def S.rowK (s : ByteArray) (k : Nat) : List S.G := (List.range k).map fun i => ⟨s.extract i (i + 1), false, 0⟩
theorem S.rowK_len (s : ByteArray) (k : Nat) : (S.rowK s k).length = k := by simp [S.rowK]
theorem S.rowK_succ (s : ByteArray) (k : Nat) : (S.rowK s (k + 1)).flatMap S.G.cells = (S.rowK s k).flatMap S.G.cells ++ [.string (s.extract k (k + 1)), .bool false, .int .i64 0] := by
  simp [S.rowK, List.range_succ, S.G.cells]

theorem row_any (s : ByteArray) (w : World) (hs : s.size ≤ 1000) :
    Calls Try.prog 27 #[.string s] w fun e w' => ∃ A c, e = .returned (.slice A s.size c) ∧ Reads w' w'.heap.size 3 A s.size ((S.rowOf s).flatMap S.G.cells) ∧ Below w.heap.size w w' := by
  have own0 := World.ownsRow_lit (base := w.heap.size) (e := 32) (size := 3) w #[] 0 (Nat.le_refl _) (by decide) rfl
  have hb0 : Below w.heap.size w (w.alloc (.cells #[] 32)) := (Below.refl _ _).alloc (Nat.le_refl _) _
  have OWN0 := Lib.hid own0
  clear own0
  obtain ⟨i0, hi0, hz0, hz1, hz2⟩ := info_parts infoGlyph
  go_enter Try.func27, Try.ntmps27
  go_wp2
  go_loopw [3, 8] (fun v i wr => ∃ k : Nat, k ≤ s.size ∧ i = .int .i64 k ∧ wr.ownsRow w.heap.size 32 3 v k ((S.rowK s k).flatMap S.G.cells) ∧ Below w.heap.size w wr) (fun _ i _ => s.size - (intOf i).toNat)
  case atStart => exact ⟨0, Nat.zero_le _, rfl, OWN0.out, hb0⟩
  case round =>
    clear hb0 OWN0
    obtain ⟨k, hk, rfl, hown, hb⟩ := hrel
    by_cases hlt : k < s.size
    · have HS := Lib.hid (S.rowK_succ s k)
      go_wp2_with (at_builtin; refine wpList_append_any _ rfl (.tmp 11) (.tmp 18) _ rfl w.heap.size 32 i0 _ 3 32 Try.underlying22 hi0 hz0 hz1 hz2 rfl (by omega) _ k _ rfl (hown.alloc _) _ (some ⟨wr.heap.size, 0, none⟩) 1 1 [.string (s.extract k (k + 1)), .bool false, .int .i64 0] rfl (reads_newS wr [.string (s.extract k (k + 1)), .bool false, .int .i64 0] 32 3 1 rfl (by simp)) (by simp [Value.oneCell']) (by simp only [maxLen]; omega) (by omega) (by have := hb.size; simp; omega) ?_; intro v1 w1 hown1 hg1 hat1)
      have hb0 : Below w.heap.size w (wr.alloc (.cells #[.string (s.extract k (k + 1)), .bool false, .int .i64 0] 32)) := hb.alloc hb.size _
      have hb1 := hb0.grown hg1 hb0.size (own_below hown (Nat.le_refl _))
      rw [← HS.out] at hown1
      clear hg1 hat1 hb0 hown
      go_roundw
      case rel => exact ⟨k + 1, hlt, by go_num, hown1, hb1⟩
      case measure => simp [intOf] <;> omega
    · obtain rfl : k = s.size := by omega
      go_wp2
      go_ret
      obtain ⟨A, c, hv, hr⟩ := own_any hown
      exact ⟨A, c, by rw [hv]; rfl, hr, hb⟩

/-- Words, as a slice that reads so. -/
theorem words_any (A : Option Addr) (c B : Nat) (gs : List S.G) (w : World) (hr : Reads w B 3 A gs.length (gs.flatMap S.G.cells)) (hB : B ≤ w.heap.size) (hm : gs.length ≤ 8796093021952) (hs : ∀ g ∈ gs, g.t.size ≤ maxLen) :
    Calls Try.prog 14 #[.slice A gs.length c] w fun e W' => ∃ A' c', e = .returned (.slice A' (S.words gs).length c') ∧ Reads W' W'.heap.size 2 A' (S.words gs).length ((S.words gs).flatMap S.sc) ∧ Below w.heap.size w W' := by
  refine (words_in A c B gs w hr hB hm hs).mono ?_
  rintro e w' ⟨v, rfl, hown, hb⟩
  obtain ⟨A', c', rfl, hr'⟩ := own_any hown
  exact ⟨A', c', rfl, hr', hb⟩
theorem fields_any (A : Option Addr) (c B : Nat) (gs : List S.G) (w : World) (hr : Reads w B 3 A gs.length (gs.flatMap S.G.cells)) (hB : B ≤ w.heap.size) (hm : gs.length ≤ 8796093021952) (hs : ∀ g ∈ gs, g.t.size ≤ maxLen) :
    Calls Try.prog 17 #[.slice A gs.length c] w fun e W' => ∃ A' c', e = .returned (.slice A' (S.fields gs).length c') ∧ Reads W' W'.heap.size 2 A' (S.fields gs).length ((S.fields gs).flatMap S.sc) ∧ Below w.heap.size w W' := by
  refine (fields_in A c B gs w hr hB hm hs).mono ?_
  rintro e w' ⟨v, rfl, hown, hb⟩
  obtain ⟨A', c', rfl, hr'⟩ := own_any hown
  exact ⟨A', c', rfl, hr', hb⟩

theorem S.awake_len : S.awakeRow.length = 11 := by decide
theorem S.awake_small : ∀ g ∈ S.awakeRow, g.t.size ≤ maxLen := by
  intro g hg
  simp only [S.awakeRow, S.rowOf, List.mem_map] at hg
  obtain ⟨i, _, rfl⟩ := hg
  simp only [ByteArray.size_extract, maxLen]
  omega

set_option maxRecDepth 10000 in
set_option maxHeartbeats 2000000 in
theorem awake_any (w : World) : Calls Try.prog 12 #[] w fun e w' => e = .returned (.bool true) ∧ Below w.heap.size w w' := by
  have R : Hid (∀ w, Calls Try.prog 27 #[.string { data := #[99, 112, 32, 97, 46, 116, 120, 116, 32, 32, 98] }] w fun e w' => ∃ A c, e = .returned (.slice A 11 c) ∧ Reads w' w'.heap.size 3 A 11 (S.awakeRow.flatMap S.G.cells) ∧ Below w.heap.size w w') := Lib.hid (fun w => row_any _ w (by decide))
  have WD : Hid (∀ A c (w0 w1 : World), Reads w0 w0.heap.size 3 A 11 (S.awakeRow.flatMap S.G.cells) → Below w0.heap.size w0 w1 → Calls Try.prog 14 #[.slice A 11 c] w1 fun e W' => ∃ A' c', e = .returned (.slice A' 5 c') ∧ Reads W' W'.heap.size 2 A' 5 ([(0, 2), (3, 4), (4, 5), (5, 8), (10, 11)].flatMap S.sc) ∧ Below w1.heap.size w1 W') := Lib.hid (fun A c w0 w1 hr hb => by
    have := words_any A c w0.heap.size S.awakeRow w1 (hr.below hb (Nat.le_refl _)) hb.size (by decide) S.awake_small
    rw [S.awake_words] at this
    exact this)
  have FD : Hid (∀ A c (w0 w1 : World), Reads w0 w0.heap.size 3 A 11 (S.awakeRow.flatMap S.G.cells) → Below w0.heap.size w0 w1 → Calls Try.prog 17 #[.slice A 11 c] w1 fun e W' => ∃ A' c', e = .returned (.slice A' 2 c') ∧ Reads W' W'.heap.size 2 A' 2 ([(0, 8), (10, 11)].flatMap S.sc) ∧ Below w1.heap.size w1 W') := Lib.hid (fun A c w0 w1 hr hb => by
    have := fields_any A c w0.heap.size S.awakeRow w1 (hr.below hb (Nat.le_refl _)) hb.size (by decide) S.awake_small
    rw [S.awake_fields] at this
    exact this)
  have S5 : Hid (∀ A A' c c' B (w : World), Reads w B 2 A 5 ([(0, 2), (3, 4), (4, 5), (5, 8), (10, 11)].flatMap S.sc) → Reads w B 2 A' 5 ([(0, 2), (3, 4), (4, 5), (5, 8), (10, 11)].flatMap S.sc) → Calls Try.prog 18 #[.slice A 5 c, .slice A' 5 c'] w fun e w' => e = .returned (.bool true) ∧ ∃ n, w' = w.drewN n) := Lib.hid (fun A A' c c' B w h h' => by
    have := same_any A A' c c' B [(0, 2), (3, 4), (4, 5), (5, 8), (10, 11)] [(0, 2), (3, 4), (4, 5), (5, 8), (10, 11)] w h h' (by decide) (by decide)
    simpa using this)
  have S2 : Hid (∀ A A' c c' B (w : World), Reads w B 2 A 2 ([(0, 8), (10, 11)].flatMap S.sc) → Reads w B 2 A' 2 ([(0, 8), (10, 11)].flatMap S.sc) → Calls Try.prog 18 #[.slice A 2 c, .slice A' 2 c'] w fun e w' => e = .returned (.bool true) ∧ ∃ n, w' = w.drewN n) := Lib.hid (fun A A' c c' B w h h' => by
    have := same_any A A' c c' B [(0, 8), (10, 11)] [(0, 8), (10, 11)] w h h' (by decide) (by decide)
    simpa using this)
  go_enter Try.func12, Try.ntmps12
  go_wp2_with fail
  refine (R.out _).mono ?_
  rintro e w1 ⟨A, c, rfl, r1, b1⟩
  go_wp2_with fail
  refine (WD.out A c w1 w1 r1 (Below.refl _ _)).mono ?_
  rintro e w2 ⟨A2, c2, rfl, r2, b2⟩
  have hb2 := b1.trans (b2.mono b1.size)
  go_wp2_with fail
  have l2 := reads_newS w2 [.int .i64 0, .int .i64 2, .int .i64 3, .int .i64 4, .int .i64 4, .int .i64 5, .int .i64 5, .int .i64 8, .int .i64 10, .int .i64 11] 34 2 5 rfl (by simp)
  have hb3 : Below w.heap.size w (w2.alloc (.cells #[.int .i64 0, .int .i64 2, .int .i64 3, .int .i64 4, .int .i64 4, .int .i64 5, .int .i64 5, .int .i64 8, .int .i64 10, .int .i64 11] 34)) := hb2.alloc hb2.size _
  have hb3' : Below w1.heap.size w1 (w2.alloc (.cells #[.int .i64 0, .int .i64 2, .int .i64 3, .int .i64 4, .int .i64 4, .int .i64 5, .int .i64 5, .int .i64 8, .int .i64 10, .int .i64 11] 34)) := b2.alloc b2.size _
  refine (S5.out _ _ _ _ _ _ ((r2.alloc (Nat.le_refl _) _).more (by simp)) l2).mono ?_
  clear l2 r2
  generalize hw3 : w2.alloc _ = w3 at *
  clear hw3
  rintro e w4 ⟨rfl, n, rfl⟩
  have hb4 := below_drewN hb3 n
  have hb4' := below_drewN hb3' n
  generalize w3.drewN n = w4 at *
  go_wp2_with fail
  refine (FD.out A c w1 w4 r1 hb4').mono ?_
  rintro e w5 ⟨A5, c5, rfl, r5, b5⟩
  have hb5 := hb4.trans (b5.mono hb4.size)
  go_wp2_with fail
  have l5 := reads_newS w5 [.int .i64 0, .int .i64 8, .int .i64 10, .int .i64 11] 34 2 2 rfl (by simp)
  have hb6 : Below w.heap.size w (w5.alloc (.cells #[.int .i64 0, .int .i64 8, .int .i64 10, .int .i64 11] 34)) := hb5.alloc hb5.size _
  refine (S2.out _ _ _ _ _ _ ((r5.alloc (Nat.le_refl _) _).more (by simp)) l5).mono ?_
  rintro e w7 ⟨rfl, n7, rfl⟩
  go_wp2_with fail
  go_ret
  exact ⟨rfl, below_drewN hb6 _⟩
end Go.Proofs.Ythfpiomooomhoaa
