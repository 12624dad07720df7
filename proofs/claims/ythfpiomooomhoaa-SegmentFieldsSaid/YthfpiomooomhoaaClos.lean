/-
  The walks of layer 22: the closures that say whether two glyphs go together. By an AI agent.
-/
import Derived.Test.YthfpiomooomhoaaGlyph
import Derived.Test.YthfpiomooomhoaaPSpans
import Derived.Deep.RegionHeld3
namespace Go.Proofs.Ythfpiomooomhoaa
open Go.RowKit

theorem i64_nat {n : Nat} (h : n ≤ 2 ^ 63 - 1) : IntKind.i64.wrap (n : Int) = (n : Int) := by
  simp [IntKind.wrap, IntKind.bits, IntKind.signed]; omega

/-- Glyph i of a row, at its index. -/
theorem Reads.glyphD {w : World} {B : Nat} {A : Option Addr} {gs : List S.G} (h : Reads w B 3 A gs.length (gs.flatMap S.G.cells)) (hn : 0 < gs.length) :
    ∃ b off, A = some ⟨b, off, none⟩ ∧ b < B ∧ ∀ k, k < gs.length → w.cell? ⟨b, off + k * 3, none⟩ = some (.string (gs.getD k default).t) ∧ w.cell? ⟨b, off + k * 3 + 1, none⟩ = some (.bool (gs.getD k default).wd) ∧ w.cell? ⟨b, off + k * 3 + 2, none⟩ = some (.int .i64 (gs.getD k default).st) := by
  obtain ⟨b, off, e, hb, hc⟩ := h.glyph hn
  refine ⟨b, off, e, hb, fun k hk => ?_⟩
  have : gs.getD k default = gs[k] := by simp [List.getD, hk]
  rw [this]
  exact hc k hk

theorem sizeD {gs : List S.G} (h : ∀ g ∈ gs, g.t.size ≤ maxLen) {k : Nat} (hk : k < gs.length) : (gs.getD k default).t.size ≤ maxLen := by
  have : gs.getD k default = gs[k] := by simp [List.getD, hk]
  rw [this]
  exact h _ (List.getElem_mem hk)

set_option maxHeartbeats 4000000 in
theorem words1_any (Bx : Nat) (A : Option Addr) (c B : Nat) (gs : List S.G) (w : World) (i : Nat) (hx : w.cell? ⟨Bx, 0, none⟩ = some (.slice A gs.length c)) (hxl : Bx < w.heap.size) (hr : Reads w B 3 A gs.length (gs.flatMap S.G.cells)) (hB : B ≤ w.heap.size) (hm : gs.length ≤ maxLen) (hs : ∀ g ∈ gs, g.t.size ≤ maxLen) (h1 : 1 ≤ i) (hi : i < gs.length) :
    Calls Try.prog 29 #[.int .i64 i, .pointer (some ⟨Bx, 0, none⟩)] w fun e w' => e = .returned (.bool (S.tgW gs i)) ∧ Below w.heap.size w w' := by
  obtain ⟨b, off, rfl, hlo, hc⟩ := hr.glyphD (by omega)
  obtain ⟨a0, a1, a2⟩ := hc i hi
  obtain ⟨j, hj⟩ : ∃ j, i = j + 1 := ⟨i - 1, by omega⟩
  obtain ⟨b0, b1, b2⟩ := hc j (by omega)
  have sa := sizeD hs hi
  have sb := sizeD hs (k := j) (by omega)
  have hT : S.tgW gs i = (((S.kind (gs.getD i default).t : Nat) : Int) == ((S.kind (gs.getD j default).t : Nat) : Int)) := by
    have : i - 1 = j := by omega
    simp only [S.tgW, S.kd, this]
    rw [Bool.eq_iff_iff, beq_iff_eq, beq_iff_eq]
    omega
  rw [hT]
  clear hT hc hr hs
  generalize gs.getD i default = g1 at *
  generalize gs.getD j default = g0 at *
  generalize hn : gs.length = n at *
  have hwb : Below w.heap.size w w.drew := (Below.refl _ _).drew
  have hbl : b < w.heap.size := by omega
  unfold maxLen at hm
  have q1 : (0 : Int) ≤ (i : Int) := by omega
  have q2 : (i : Int) < (n : Int) := by omega
  have q3 : (0 : Int) ≤ (j : Int) := by omega
  have q4 : (j : Int) < (n : Int) := by omega
  have q5 : IntKind.i64.wrap ((i : Int) - 1) = (j : Int) := by rw [show (i : Int) - 1 = j by omega]; simp [IntKind.wrap, IntKind.bits, IntKind.signed]; omega
  clear hj
  have K : ∀ (t : ByteArray) (wd : Bool) (st : Int) (w1 : World), t.size ≤ maxLen → Below w.heap.size w w1 → Calls Try.prog 30 #[.agg #[.string t, .bool wd, .int .i64 st]] w1 fun e w' => e = .returned (.int .i64 (S.kind t)) ∧
      (w'.cell? ⟨Bx, 0, none⟩ = some (.slice (some ⟨b, off, none⟩) n c) ∧ w'.cell? ⟨b, off + i * 3, none⟩ = some (.string g1.t) ∧ w'.cell? ⟨b, off + i * 3 + 1, none⟩ = some (.bool g1.wd) ∧ w'.cell? ⟨b, off + i * 3 + 2, none⟩ = some (.int .i64 g1.st) ∧
       w'.cell? ⟨b, off + j * 3, none⟩ = some (.string g0.t) ∧ w'.cell? ⟨b, off + j * 3 + 1, none⟩ = some (.bool g0.wd) ∧ w'.cell? ⟨b, off + j * 3 + 2, none⟩ = some (.int .i64 g0.st) ∧ Below w.heap.size w w') := by
    intro t wd st w1 ht hb1
    refine (kind_any t wd st w1 ht).mono ?_
    rintro e w' ⟨rfl, hb2⟩
    have hb3 : Below w.heap.size w w' := hb1.trans (hb2.mono hb1.size)
    exact ⟨rfl, (hb3.cell (p := ⟨Bx, 0, none⟩) hxl).trans hx, (hb3.cell (p := ⟨b, _, none⟩) hbl).trans a0, (hb3.cell (p := ⟨b, _, none⟩) hbl).trans a1, (hb3.cell (p := ⟨b, _, none⟩) hbl).trans a2, (hb3.cell (p := ⟨b, _, none⟩) hbl).trans b0, (hb3.cell (p := ⟨b, _, none⟩) hbl).trans b1, (hb3.cell (p := ⟨b, _, none⟩) hbl).trans b2, hb3⟩
  go_enter Try.func29, Try.ntmps29
  go_wp2
  go_region_held3 (fun w' => w'.cell? ⟨Bx, 0, none⟩ = some (.slice (some ⟨b, off, none⟩) n c) ∧ w'.cell? ⟨b, off + i * 3, none⟩ = some (.string g1.t) ∧ w'.cell? ⟨b, off + i * 3 + 1, none⟩ = some (.bool g1.wd) ∧ w'.cell? ⟨b, off + i * 3 + 2, none⟩ = some (.int .i64 g1.st) ∧
       w'.cell? ⟨b, off + j * 3, none⟩ = some (.string g0.t) ∧ w'.cell? ⟨b, off + j * 3 + 1, none⟩ = some (.bool g0.wd) ∧ w'.cell? ⟨b, off + j * 3 + 2, none⟩ = some (.int .i64 g0.st) ∧ Below w.heap.size w w')
    (first | exact ⟨hx, a0, a1, a2, b0, b1, b2, hwb⟩ | assumption | (refine ⟨?_, ?_, ?_, ?_, ?_, ?_, ?_, ?_⟩ <;> assumption))
    (first | (go_at_call 30; refine (K _ _ _ _ ?_ ?_).mono ?_; assumption; (first | assumption | exact hwb); rintro e w' ⟨rfl, s1, s2, s3, s4, s5, s6, s7, s8⟩))
  all_goals
    go_wp2
    go_ret
    exact ⟨rfl, by assumption⟩
set_option maxHeartbeats 4000000 in
set_option maxRecDepth 10000 in
theorem gap_any (Bx : Nat) (A : Option Addr) (c B : Nat) (gs : List S.G) (w : World) (i : Nat) (hx : w.cell? ⟨Bx, 0, none⟩ = some (.slice A gs.length c)) (hxl : Bx < w.heap.size) (hr : Reads w B 3 A gs.length (gs.flatMap S.G.cells)) (hB : B ≤ w.heap.size) (hm : gs.length ≤ maxLen) (hs : ∀ g ∈ gs, g.t.size ≤ maxLen) (hi : i < gs.length) :
    Calls Try.prog 31 #[.int .i64 i, .pointer (some ⟨Bx, 0, none⟩)] w fun e w' => e = .returned (.bool (S.gap gs i)) ∧ Below w.heap.size w w' := by
  obtain ⟨b, off, rfl, hlo, hc⟩ := hr.glyphD (by omega)
  have hbl : b < w.heap.size := by omega
  have hrb : Bx < w.heap.size := hxl
  unfold maxLen at hm
  -- what a later world holds
  have K : ∀ (k : Nat), k < gs.length → ∀ w1 : World, Below w.heap.size w w1 → Calls Try.prog 30 #[.agg #[.string (gs.getD k default).t, .bool (gs.getD k default).wd, .int .i64 (gs.getD k default).st]] w1 fun e w' => e = .returned (.int .i64 (S.kd gs k)) ∧ Below w.heap.size w w' := by
    intro k hk w1 hb1
    refine (kind_any _ _ _ w1 (sizeD hs hk)).mono ?_
    rintro e w' ⟨rfl, hb2⟩
    exact ⟨rfl, hb1.trans (hb2.mono hb1.size)⟩
  have C : ∀ w1 : World, Below w.heap.size w w1 → w1.cell? ⟨Bx, 0, none⟩ = some (.slice (some ⟨b, off, none⟩) gs.length c) := fun w1 h1 => (h1.cell (p := ⟨Bx, 0, none⟩) hxl).trans hx
  have D : ∀ w1 : World, Below w.heap.size w w1 → ∀ k, k < gs.length → w1.cell? ⟨b, off + k * 3, none⟩ = some (.string (gs.getD k default).t) ∧ w1.cell? ⟨b, off + k * 3 + 1, none⟩ = some (.bool (gs.getD k default).wd) ∧ w1.cell? ⟨b, off + k * 3 + 2, none⟩ = some (.int .i64 (gs.getD k default).st) := by
    intro w1 h1 k hk
    obtain ⟨a0, a1, a2⟩ := hc k hk
    exact ⟨(h1.cell (p := ⟨b, _, none⟩) hbl).trans a0, (h1.cell (p := ⟨b, _, none⟩) hbl).trans a1, (h1.cell (p := ⟨b, _, none⟩) hbl).trans a2⟩
  clear hc hr hs
  have hw := Below.refl w.heap.size w
  obtain ⟨i0, i1, i2⟩ := D w hw i hi
  have Ki := K i hi w hw
  have cases : ((((S.kd gs i : Nat) : Int) == 0) = false ∧ S.gap gs i = false) ∨ ((((S.kd gs i : Nat) : Int) == 0) = true ∧ i = 0 ∧ S.gap gs i = true) ∨
      ((((S.kd gs i : Nat) : Int) == 0) = true ∧ 0 < i ∧ i + 1 = gs.length ∧ S.gap gs i = true) ∨
      ((((S.kd gs i : Nat) : Int) == 0) = true ∧ 0 < i ∧ i + 1 < gs.length ∧ (((S.kd gs (i - 1) : Nat) : Int) == 0) = true ∧ S.gap gs i = true) ∨
      ((((S.kd gs i : Nat) : Int) == 0) = true ∧ 0 < i ∧ i + 1 < gs.length ∧ (((S.kd gs (i - 1) : Nat) : Int) == 0) = false ∧ (((S.kd gs (i + 1) : Nat) : Int) == 0) = S.gap gs i) := by
    have z : ∀ x : Nat, (((x : Nat) : Int) == 0) = (x == 0) := fun x => by rw [Bool.eq_iff_iff, beq_iff_eq, beq_iff_eq]; omega
    simp only [z, S.gap]
    by_cases h1 : S.kd gs i = 0
    · by_cases h2 : i = 0
      · exact .inr (.inl ⟨by simp [h1], h2, by subst h2; simp [h1]⟩)
      by_cases h3 : i + 1 = gs.length
      · exact .inr (.inr (.inl ⟨by simp [h1], by omega, h3, by simp [h1, h3]⟩))
      by_cases h4 : S.kd gs (i - 1) = 0
      · exact .inr (.inr (.inr (.inl ⟨by simp [h1], by omega, by omega, by simp [h4], by simp [h1, h4]⟩)))
      · exact .inr (.inr (.inr (.inr ⟨by simp [h1], by omega, by omega, by simp [h4], by simp [h1, h2, h3, h4]⟩)))
    · exact .inl ⟨by simp [h1], by simp [h1]⟩
  generalize gs.length = n at *
  rcases cases with ⟨k1, hg⟩ | ⟨k1, h2, hg⟩ | ⟨k1, h2, h3, hg⟩ | ⟨k1, h2, h3, k4, hg⟩ | ⟨k1, h2, h3, k4, hg⟩
  · rw [hg]
    clear K C D
    go_enter Try.func31, Try.ntmps31
    go_wp2_with (go_at_call 30; refine Ki.mono ?_; clear Ki; rintro e w1 ⟨rfl, hb1⟩)
    go_ret
    exact ⟨rfl, hb1⟩
  · rw [hg]
    have q1 : ((i : Int) == 0) = true := beq_iff_eq.2 (by omega)
    clear h2
    clear K C D
    go_enter Try.func31, Try.ntmps31
    go_wp2_with (go_at_call 30; refine Ki.mono ?_; clear Ki; rintro e w1 ⟨rfl, hb1⟩)
    go_ret
    exact ⟨rfl, hb1⟩
  · rw [hg]
    subst h3
    go_enter Try.func31, Try.ntmps31
    go_wp2_with (go_at_call 30; refine Ki.mono ?_; clear Ki; rintro e w1 ⟨rfl, hb1⟩; have c1 := C w1 hb1; clear C D K)
    go_ret
    exact ⟨rfl, hb1⟩
  · rw [hg]
    obtain ⟨j, hj⟩ : ∃ j, i = j + 1 := ⟨i - 1, by omega⟩
    have hij : i - 1 = j := by omega
    rw [hij] at k4
    subst hj
    have q1 : (((j : Int) + 1) == 0) = false := beq_eq_false_iff_ne.2 (by omega)
    have q2 : (((j : Int) + 1 + 1) == (n : Int)) = false := beq_eq_false_iff_ne.2 (by omega)
    go_enter Try.func31, Try.ntmps31
    go_wp2_with (first | (go_at_call 30; refine Ki.mono ?_; clear Ki; rintro e w1 ⟨rfl, hb1⟩; have c1 := C w1 hb1; obtain ⟨d0, d1, d2⟩ := D w1 hb1 j (by omega); have K1 := K j (by omega) w1 hb1; clear C D K) | (go_at_call 30; refine K1.mono ?_; clear K1; rintro e w2 ⟨rfl, hb2⟩))
    go_ret
    exact ⟨rfl, hb2⟩
  · obtain ⟨j, hj⟩ : ∃ j, i = j + 1 := ⟨i - 1, by omega⟩
    have hij : i - 1 = j := by omega
    rw [hij] at k4
    subst hj
    have q1 : (((j : Int) + 1) == 0) = false := beq_eq_false_iff_ne.2 (by omega)
    have q2 : (((j : Int) + 1 + 1) == (n : Int)) = false := beq_eq_false_iff_ne.2 (by omega)
    go_enter Try.func31, Try.ntmps31
    go_wp2_with (first | (go_at_call 30; refine Ki.mono ?_; clear Ki; rintro e w1 ⟨rfl, hb1⟩; have c1 := C w1 hb1; obtain ⟨d0, d1, d2⟩ := D w1 hb1 j (by omega); have K1 := K j (by omega) w1 hb1) | (go_at_call 30; refine K1.mono ?_; clear K1; rintro e w2 ⟨rfl, hb2⟩; have c2 := C w2 hb2; obtain ⟨e0, e1, e2⟩ := D w2 hb2 (j + 1 + 1) (by omega); have K2 := K (j + 1 + 1) (by omega) w2 hb2; clear C D K) | (go_at_call 30; refine K2.mono ?_; clear K2; rintro e w3 ⟨rfl, hb3⟩))
    go_ret
    exact ⟨rfl, hb3⟩
set_option maxHeartbeats 4000000 in
theorem fields2_any (Bg Bx : Nat) (A : Option Addr) (c B : Nat) (gs : List S.G) (w : World) (i : Nat) (hg : w.cell? ⟨Bg, 0, none⟩ = some (.func (.func 31) #[] #[.pointer (some ⟨Bx, 0, none⟩)])) (hgl : Bg < w.heap.size) (hx : w.cell? ⟨Bx, 0, none⟩ = some (.slice A gs.length c)) (hxl : Bx < w.heap.size) (hr : Reads w B 3 A gs.length (gs.flatMap S.G.cells)) (hB : B ≤ w.heap.size) (hm : gs.length ≤ maxLen) (hs : ∀ g ∈ gs, g.t.size ≤ maxLen) (h1 : 1 ≤ i) (hi : i < gs.length) :
    Calls Try.prog 32 #[.int .i64 i, .pointer (some ⟨Bg, 0, none⟩)] w fun e w' => e = .returned (.bool (S.tgF gs i)) ∧ Below w.heap.size w w' := by
  obtain ⟨j, hj⟩ : ∃ j, i = j + 1 := ⟨i - 1, by omega⟩
  have hT : S.tgF gs i = (S.gap gs i == S.gap gs j) := by
    have : i - 1 = j := by omega
    simp only [S.tgF, this]
  rw [hT]
  have hlj : j < gs.length := by omega
  have hwb : Below w.heap.size w w.drew := (Below.refl _ _).drew
  have q5 : IntKind.i64.wrap ((i : Int) - 1) = (j : Int) := by rw [show (i : Int) - 1 = j by omega]; exact i64_nat (by unfold maxLen at hm; omega)
  have K : ∀ (k : Nat) (w1 : World), k < gs.length → Below w.heap.size w w1 → Calls Try.prog 31 #[.int .i64 k, .pointer (some ⟨Bx, 0, none⟩)] w1 fun e w' => e = .returned (.bool (S.gap gs k)) ∧
      (w'.cell? ⟨Bg, 0, none⟩ = some (.func (.func 31) #[] #[.pointer (some ⟨Bx, 0, none⟩)]) ∧ Below w.heap.size w w') := by
    intro k w1 hk hb1
    refine (gap_any Bx A c B gs w1 k ((hb1.cell (p := ⟨Bx, 0, none⟩) hxl).trans hx) (Nat.lt_of_lt_of_le hxl hb1.size) (hr.below hb1 hB) (Nat.le_trans hB hb1.size) hm hs hk).mono ?_
    rintro e w' ⟨rfl, hb2⟩
    have hb3 : Below w.heap.size w w' := hb1.trans (hb2.mono hb1.size)
    exact ⟨rfl, (hb3.cell (p := ⟨Bg, 0, none⟩) hgl).trans hg, hb3⟩
  clear hj hT hr hs hm hx
  go_enter Try.func32, Try.ntmps32
  go_wp2
  go_region_held3 (fun w' => w'.cell? ⟨Bg, 0, none⟩ = some (.func (.func 31) #[] #[.pointer (some ⟨Bx, 0, none⟩)]) ∧ Below w.heap.size w w')
    (first | exact ⟨hg, hwb⟩ | assumption | (refine ⟨?_, ?_⟩ <;> assumption))
    (first | (go_at_call 31; refine (K _ _ ?_ ?_).mono ?_; assumption; (first | assumption | exact hwb); rintro e w' ⟨rfl, s1, s8⟩))
  all_goals
    go_wp2
    go_ret
    exact ⟨rfl, by assumption⟩
end Go.Proofs.Ythfpiomooomhoaa
