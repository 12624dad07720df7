/-
  The statements of layer 22: SegmentStyle. By an AI agent.
-/
import Derived.Test.YthfpiomooomhoaaInd
import Derived.Test.YthfpiomooomhoaaPField
namespace Go.Proofs.Ythfpiomooomhoaa
open Go.RowKit

namespace S
def wordsOf (n : Nat) (kd : Nat → Nat) : List (Nat × Nat) := kept (fun i => kd i == 0) (spans n (fun i => kd i == kd (i - 1)) 0)
theorem words_of (gs : List G) : words gs = wordsOf gs.length (kd gs) := words_kept gs
def gapOf (n : Nat) (kd : Nat → Nat) (i : Nat) : Bool := kd i == 0 && (i == 0 || i + 1 == n || kd (i - 1) == 0 || kd (i + 1) == 0)
def fieldsOf (n : Nat) (kd : Nat → Nat) : List (Nat × Nat) := kept (gapOf n kd) (spans n (fun i => gapOf n kd i == gapOf n kd (i - 1)) 0)
theorem fields_of (gs : List G) : fields gs = fieldsOf gs.length (kd gs) := fields_kept gs

/-- The first k glyphs bear the style. -/
def styled (gs : List G) (st : Int) (k : Nat) : List G := (gs.take k).map (fun g => { g with st := st }) ++ gs.drop k
theorem styled_len (gs : List G) (st : Int) (k : Nat) : (styled gs st k).length = gs.length := by simp [styled]; omega
theorem styled_zero (gs : List G) (st : Int) : styled gs st 0 = gs := by simp [styled]
theorem styled_get (gs : List G) (st : Int) (k i : Nat) (hi : i < gs.length) : (styled gs st k)[i]'(by rw [styled_len]; exact hi) = if i < k then { gs[i] with st := st } else gs[i] := by
  unfold styled
  by_cases h : i < k
  · rw [List.getElem_append_left (by simp; omega)]
    simp [h]
  · rw [List.getElem_append_right (by simp; omega)]
    simp only [h, if_false, List.getElem_drop, List.length_map, List.length_take]
    congr 1
    omega
theorem styled_succ (gs : List G) (st : Int) (k : Nat) (h : k < gs.length) : (styled gs st k).set k { gs[k] with st := st } = styled gs st (k + 1) := by
  apply List.ext_getElem
  · simp [styled_len]
  · intro i h1 h2
    have hi : i < gs.length := by rw [styled_len] at h2; exact h2
    rw [List.getElem_set, styled_get gs st (k + 1) i hi]
    by_cases e : k = i
    · subst e; simp
    · simp only [e, if_false]
      rw [styled_get gs st k i hi]
      have : (i < k) ↔ (i < k + 1) := by omega
      simp only [this]
theorem styled_kd (gs : List G) (st : Int) (k : Nat) : kd (styled gs st k) = kd gs := by
  funext i
  unfold kd
  by_cases hi : i < gs.length
  · have h1 : (styled gs st k).getD i default = (styled gs st k)[i]'(by rw [styled_len]; exact hi) := by simp [List.getD, styled_len, hi]
    have h2 : gs.getD i default = gs[i] := by simp [List.getD, hi]
    rw [h1, h2, styled_get gs st k i hi]
    split <;> rfl
  · have h1 : (styled gs st k).getD i default = default := by simp [List.getD, styled_len, hi]
    have h2 : gs.getD i default = default := by simp [List.getD, hi]
    rw [h1, h2]
theorem styled_size (gs : List G) (st : Int) (k : Nat) (h : ∀ g ∈ gs, g.t.size ≤ maxLen) : ∀ g ∈ styled gs st k, g.t.size ≤ maxLen := by
  intro g hg
  simp only [styled, List.mem_append, List.mem_map] at hg
  rcases hg with ⟨g', hg', rfl⟩ | hg
  · exact h g' (List.mem_of_mem_take hg')
  · exact h g (List.mem_of_mem_drop hg)
theorem words_styled (gs : List G) (st : Int) (k : Nat) : words (styled gs st k) = words gs := by rw [words_of, words_of, styled_len, styled_kd]
theorem fields_styled (gs : List G) (st : Int) (k : Nat) : fields (styled gs st k) = fields gs := by rw [fields_of, fields_of, styled_len, styled_kd]
theorem indent_styled (gs : List G) (st : Int) (k : Nat) : indent (styled gs st k) = indent gs := by
  have hle := indent_le gs
  by_cases h : indent gs < gs.length
  · refine indent_at (by rw [styled_len]; exact h) (fun j hj => ?_) ?_
    · rw [styled_kd]
      have := List.not_of_lt_findIdx (show j < gs.findIdx fun g => kind g.t != 0 from hj)
      simp [kd, List.getD, show j < gs.length by omega] at this ⊢
      exact this
    · rw [styled_kd]
      have := List.findIdx_getElem (w := (show gs.findIdx (fun g => kind g.t != 0) < gs.length from h))
      have e0 : gs.getD (indent gs) default = gs[indent gs] := by simp [List.getD, h]
      unfold kd
      rw [e0]
      exact bne_iff_ne.1 this
  · have e : indent gs = gs.length := by omega
    rw [e, ← styled_len gs st k]
    refine indent_none (fun j hj => ?_)
    rw [styled_kd]
    rw [styled_len] at hj
    have := List.not_of_lt_findIdx (show j < gs.findIdx fun g => kind g.t != 0 by show j < indent gs; omega)
    simp [kd, List.getD, hj] at this ⊢
    exact this
end S

theorem flat_set {α : Type} (f : α → List Value) (size : Nat) : ∀ (xs : List α), (∀ a, (f a).length = size) → ∀ (i j : Nat) (hi : i < xs.length), j < size → ∀ (v : Value) (a' : α), (f xs[i]).set j v = f a' → (xs.flatMap f).set (i * size + j) v = (xs.set i a').flatMap f
  | [], _, i, _, hi, _, _, _, _ => absurd hi (by simp)
  | x :: xs, hs, 0, j, _, hj, v, a', h => by
    simp only [List.getElem_cons_zero] at h
    rw [List.flatMap_cons, List.set_cons_zero, List.flatMap_cons, Nat.zero_mul, Nat.zero_add, List.set_append_left _ _ (by rw [hs]; exact hj), h]
  | x :: xs, hs, i + 1, j, hi, hj, v, a', h => by
    simp only [List.getElem_cons_succ] at h
    rw [List.flatMap_cons, List.set_cons_succ, List.flatMap_cons, List.set_append_right _ _ (by rw [hs, Nat.succ_mul]; omega), hs, show (i + 1) * size + j - size = i * size + j by rw [Nat.succ_mul]; omega, flat_set f size xs hs i j (by simpa using hi) hj v a' h]
theorem glyph_one (gs : List S.G) : ∀ u ∈ gs.flatMap S.G.cells, u.oneCell' = true := by
  intro u hu
  simp only [List.mem_flatMap, S.G.cells] at hu
  obtain ⟨g, _, hg⟩ := hu
  simp at hg
  rcases hg with rfl | rfl | rfl <;> rfl

set_option maxRecDepth 10000 in
set_option maxHeartbeats 4000000 in
theorem style_any (A : Option Addr) (c B : Nat) (gs : List S.G) (st : Int) (w : World) (hrow : Row w B A gs) (hB : B ≤ w.heap.size) (_hlo : -9223372036854775808 ≤ st) (_hhi : st ≤ 9223372036854775807) :
    Calls Try.prog 8 #[.slice A gs.length c, .int .i64 st] w fun e w' => e = .returned (.bool true) ∧ Below w.heap.size w w' := by
  have HG := Lib.hid (great_any A c B gs w hrow.1 hrow.2.1 hrow.2.2)
  cases hgr : S.great gs
  · obtain ⟨hl, hg⟩ := S.great_false hgr
    rw [hgr] at HG
    clear hgr
    have HROW := Lib.hid hrow
    have own0 := World.ownsRow_lit (base := w.heap.size) (e := 32) (size := 3) w #[] 0 (Nat.le_refl _) (by decide) rfl
    have hb0 : Below w.heap.size w (w.alloc (.cells #[] 32)) := (Below.refl _ _).alloc (Nat.le_refl _) _
    have HR1 := hrow.1.alloc hB (.cells #[] 32)
    obtain ⟨i0, hi0, hz0, hz1, hz2⟩ := info_parts infoGlyph
    clear hrow hg
    go_enter Try.func8, Try.ntmps8
    go_wp2_with fail
    refine HG.out.mono ?_
    rintro e w0 ⟨rfl, rfl⟩
    go_wp2_with (at_builtin; refine wpList_append_any _ rfl (.tmp 10) (.tmp 11) _ rfl w.heap.size 32 i0 _ 3 32 Try.underlying22 hi0 hz0 hz1 hz2 rfl (by omega) (.slice (some ⟨w.heap.size, 0, none⟩) 0 0) 0 [] rfl own0 B A gs.length c _ rfl HR1 (glyph_one _) (by simp only [maxLen]; omega) (by omega) hb0.size ?_; intro v1 w1 hown1 hg1 hat1; have hown2 : w1.ownsRow w.heap.size 32 3 v1 gs.length (gs.flatMap S.G.cells) := (by simpa using hown1); obtain ⟨A1, c1, rfl, rd1⟩ := own_any hown2)
    have hb1 : Below w.heap.size w w1 := hb0.grown hg1 hb0.size (own_below own0 (Nat.le_refl _))
    clear hown1 hg1 hat1 own0 HR1 rd1 hb0
    go_loopw [15] (fun i wr => ∃ k : Nat, k ≤ gs.length ∧ i = .int .i64 k ∧ wr.ownsRow w.heap.size 32 3 (.slice A1 gs.length c1) gs.length ((S.styled gs st k).flatMap S.G.cells) ∧ Below w.heap.size w wr) (fun i _ => gs.length - (intOf i).toNat)
    case atStart => exact ⟨0, Nat.zero_le _, rfl, by rw [S.styled_zero]; exact hown2, hb1⟩
    case round =>
      clear hown2 hb1
      obtain ⟨k, hk, rfl, hown, hb⟩ := hrel
      by_cases hlt : k < gs.length
      · obtain ⟨g, cap, hv, hg1, hg2⟩ := hown.form (by omega)
        injection hv with e1 e2 e3
        subst e1
        have hlk : k < (S.styled gs st k).length := by rw [S.styled_len]; exact hlt
        have hfz := hown.frozenAt (k * 3 + 2)
        have hcell := hown.cellAt (k * 3 + 2) (by omega)
        have hg := flat_get S.G.cells 3 (S.styled gs st k) (fun g => rfl) k 2 (by decide)
        rw [hg, List.getElem?_eq_getElem hlk] at hcell
        have hst : Hid ((wr.setCell ⟨g, k * 3 + 2, none⟩ (.int .i64 st)).ownsRow w.heap.size 32 3 (.slice (some ⟨g, 0, none⟩) gs.length c1) gs.length ((S.styled gs st (k + 1)).flatMap S.G.cells)) := Lib.hid (by
          have h := (hown.stored (k * 3 + 2) (.int .i64 st)).1
          rwa [flat_set S.G.cells 3 _ (fun g => rfl) k 2 hlk (by decide) (.int .i64 st) { gs[k] with st := st } (by rw [S.styled_get gs st k k hlt]; simp [S.G.cells]), S.styled_succ gs st k hlt] at h)
        simp only [Option.bind_some, S.G.cells] at hcell
        have hcell2 : wr.cell? ⟨g, k * 3 + 2, none⟩ = some (.int .i64 ((S.styled gs st k)[k]).st) := hcell
        clear hcell hg hown
        generalize ((S.styled gs st k)[k]).st = z at *
        go_wp2
        go_roundw
        case rel => exact ⟨k + 1, hlt, by go_num, hst.out, hb.setCell hg1 _⟩
        case measure => simp [intOf] <;> omega
      · obtain rfl : k = gs.length := by omega
        obtain ⟨A2, c2, hv2, rd⟩ := own_any hown
        injection hv2 with e1 e2 e3
        clear e2
        subst e1
        subst e3
        have hrow2 : Hid (∀ w', Below wr.heap.size wr w' → Row w' wr.heap.size A1 (S.styled gs st gs.length)) := Lib.hid (fun w' h => ⟨by rw [S.styled_len]; exact rd.below h (Nat.le_refl _), by rw [S.styled_len]; unfold maxLen; omega, S.styled_size _ _ _ HROW.out.2.2⟩)
        have hrow1 : Hid (∀ w', Below wr.heap.size wr w' → Row w' B A gs) := Lib.hid (fun w' h => HROW.out.below (hb.trans (h.mono hb.size)) hB)
        have hwl : (S.words gs).length ≤ 200 := Nat.le_trans (List.length_filterMap_le _ _) (Nat.le_trans (S.spans_length _ _ _) (by omega))
        have hfl : (S.fields gs).length ≤ 200 := Nat.le_trans (List.length_filterMap_le _ _) (Nat.le_trans (S.spans_length _ _ _) (by omega))
        have CW1 : Hid (∀ w', Below wr.heap.size wr w' → Calls Try.prog 14 #[.slice A gs.length c] w' fun e W' => ∃ A' c', e = .returned (.slice A' (S.words gs).length c') ∧ Reads W' W'.heap.size 2 A' (S.words gs).length ((S.words gs).flatMap S.sc) ∧ Below w'.heap.size w' W') := Lib.hid (fun w' h =>
          words_any A c B gs w' (hrow1.out w' h).1 (Nat.le_trans hB (Nat.le_trans hb.size h.size)) (by omega) (hrow1.out w' h).2.2)
        have CW2 : Hid (∀ w', Below wr.heap.size wr w' → Calls Try.prog 14 #[.slice A1 gs.length c1] w' fun e W' => ∃ A' c', e = .returned (.slice A' (S.words gs).length c') ∧ Reads W' W'.heap.size 2 A' (S.words gs).length ((S.words gs).flatMap S.sc) ∧ Below w'.heap.size w' W') := Lib.hid (fun w' h => by
          have := words_any A1 c1 wr.heap.size _ w' (hrow2.out w' h).1 h.size (by rw [S.styled_len]; omega) (hrow2.out w' h).2.2
          rwa [S.words_styled, S.styled_len] at this)
        have CF1 : Hid (∀ w', Below wr.heap.size wr w' → Calls Try.prog 17 #[.slice A gs.length c] w' fun e W' => ∃ A' c', e = .returned (.slice A' (S.fields gs).length c') ∧ Reads W' W'.heap.size 2 A' (S.fields gs).length ((S.fields gs).flatMap S.sc) ∧ Below w'.heap.size w' W') := Lib.hid (fun w' h =>
          fields_any A c B gs w' (hrow1.out w' h).1 (Nat.le_trans hB (Nat.le_trans hb.size h.size)) (by omega) (hrow1.out w' h).2.2)
        have CF2 : Hid (∀ w', Below wr.heap.size wr w' → Calls Try.prog 17 #[.slice A1 gs.length c1] w' fun e W' => ∃ A' c', e = .returned (.slice A' (S.fields gs).length c') ∧ Reads W' W'.heap.size 2 A' (S.fields gs).length ((S.fields gs).flatMap S.sc) ∧ Below w'.heap.size w' W') := Lib.hid (fun w' h => by
          have := fields_any A1 c1 wr.heap.size _ w' (hrow2.out w' h).1 h.size (by rw [S.styled_len]; omega) (hrow2.out w' h).2.2
          rwa [S.fields_styled, S.styled_len] at this)
        have CI1 : Hid (∀ w', Below wr.heap.size wr w' → Calls Try.prog 21 #[.slice A gs.length c] w' fun e W' => e = .returned (.int .i64 (S.indent gs)) ∧ Below w'.heap.size w' W') := Lib.hid (fun w' h =>
          indent_any A c B gs w' (hrow1.out w' h) (Nat.le_trans hB (Nat.le_trans hb.size h.size)))
        have CI2 : Hid (∀ w', Below wr.heap.size wr w' → Calls Try.prog 21 #[.slice A1 gs.length c1] w' fun e W' => e = .returned (.int .i64 (S.indent gs)) ∧ Below w'.heap.size w' W') := Lib.hid (fun w' h => by
          have := indent_any A1 c1 wr.heap.size _ w' (hrow2.out w' h) h.size
          rwa [S.indent_styled, S.styled_len] at this)
        have CS : Hid (∀ (xs : List (Nat × Nat)) A A' c c' B (w : World), xs.length ≤ 200 → Reads w B 2 A xs.length (xs.flatMap S.sc) → Reads w B 2 A' xs.length (xs.flatMap S.sc) → Calls Try.prog 18 #[.slice A xs.length c, .slice A' xs.length c'] w fun e w' => e = .returned (.bool true) ∧ ∃ n, w' = w.drewN n) := Lib.hid (fun xs A A' c c' B w hx h h' => by
          have := same_any A A' c c' B xs xs w h h' (by omega) (by omega)
          simpa using this)
        have HL := Lib.hid (And.intro hwl hfl)
        clear rd hown hrow1 hrow2 hwl hfl HG
        generalize S.words gs = ws at *
        generalize S.fields gs = fs at *
        generalize S.indent gs = ind at *
        have d0 := Below.refl wr.heap.size wr
        go_wp2_with fail
        refine (CW1.out _ d0).mono ?_
        rintro e a1 ⟨B1, k1, rfl, q1, h1⟩
        have d1 := d0.trans (h1.mono d0.size)
        clear h1
        go_wp2_with fail
        refine (CW2.out _ d1).mono ?_
        rintro e a2 ⟨B2, k2, rfl, q2, h2⟩
        have d2 := d1.trans (h2.mono d1.size)
        have q1' := (q1.below h2 (Nat.le_refl _)).more h2.size
        clear h2 q1
        go_wp2_with fail
        refine (CS.out ws _ _ _ _ _ _ HL.out.1 q1' q2).mono ?_
        rintro e a3 ⟨rfl, n3, rfl⟩
        have d3 := below_drewN d2 n3
        clear q1' q2
        generalize a2.drewN n3 = a3 at *
        go_wp2_with fail
        refine (CF1.out _ d3).mono ?_
        rintro e a4 ⟨B4, k4, rfl, q4, h4⟩
        have d4 := d3.trans (h4.mono d3.size)
        clear h4
        go_wp2_with fail
        refine (CF2.out _ d4).mono ?_
        rintro e a5 ⟨B5, k5, rfl, q5, h5⟩
        have d5 := d4.trans (h5.mono d4.size)
        have q4' := (q4.below h5 (Nat.le_refl _)).more h5.size
        clear h5 q4
        go_wp2_with fail
        refine (CS.out fs _ _ _ _ _ _ HL.out.2 q4' q5).mono ?_
        rintro e a6 ⟨rfl, n6, rfl⟩
        have d6 := below_drewN d5 n6
        clear q4' q5
        generalize a5.drewN n6 = a6 at *
        go_wp2_with fail
        refine (CI1.out _ d6).mono ?_
        rintro e a7 ⟨rfl, h7⟩
        have d7 := d6.trans (h7.mono d6.size)
        clear h7
        go_wp2_with fail
        refine (CI2.out _ d7).mono ?_
        rintro e a8 ⟨rfl, h8⟩
        have d8 := d7.trans (h8.mono d7.size)
        clear h8
        go_wp2_with fail
        refine (awake_any _).mono ?_
        rintro e a9 ⟨rfl, h9⟩
        have d9 := d8.trans (h9.mono d8.size)
        go_wp2_with fail
        go_ret
        exact ⟨rfl, hb.trans (d9.mono hb.size)⟩
  · rw [hgr] at HG
    clear hgr hrow
    go_enter Try.func8, Try.ntmps8
    go_wp2_with fail
    refine HG.out.mono ?_
    rintro e w0 ⟨rfl, rfl⟩
    go_wp2_with fail
    refine (awake_any _).mono ?_
    rintro e w5 ⟨rfl, b5⟩
    go_wp2_with fail
    go_ret
    exact ⟨rfl, b5⟩
end Go.Proofs.Ythfpiomooomhoaa
