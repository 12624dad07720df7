/-
  The walks of layer 22: rows of glyphs: Great, blank, the reference's Kind. By an AI agent.
-/
import Derived.Test.YthfpiomooomhoaaKind
namespace Go.Proofs.Ythfpiomooomhoaa
open Go.RowKit

theorem S.G.cells_len (g : S.G) : g.cells.length = 3 := rfl

/-- A row of glyphs: what its cells hold, one glyph at a time. -/
theorem Reads.glyph {w : World} {B : Nat} {A : Option Addr} {gs : List S.G} (h : Reads w B 3 A gs.length (gs.flatMap S.G.cells)) (hn : 0 < gs.length) :
    ∃ b off, A = some ⟨b, off, none⟩ ∧ b < B ∧ ∀ k (hk : k < gs.length), w.cell? ⟨b, off + k * 3, none⟩ = some (.string gs[k].t) ∧ w.cell? ⟨b, off + k * 3 + 1, none⟩ = some (.bool gs[k].wd) ∧ w.cell? ⟨b, off + k * 3 + 2, none⟩ = some (.int .i64 gs[k].st) := by
  obtain ⟨b, off, e, hb, hc⟩ := h.flat hn (by decide)
  refine ⟨b, off, e, hb, fun k hk => ?_⟩
  have hg := fun j hj => flat_get S.G.cells 3 gs (fun g => rfl) k j hj
  have e0 := hg 0 (by decide)
  have e1 := hg 1 (by decide)
  have e2 := hg 2 (by decide)
  rw [List.getElem?_eq_getElem hk] at e0 e1 e2
  exact ⟨hc (k * 3 + 0) _ e0, hc (k * 3 + 1) _ e1, hc (k * 3 + 2) _ e2⟩

/-- A row is too long for the statements. -/
def S.great (gs : List S.G) : Bool := decide (200 < gs.length) || gs.any (fun g => decide (100 < g.t.size))

theorem S.great_false {gs : List S.G} (h : S.great gs = false) : gs.length ≤ 200 ∧ ∀ g ∈ gs, g.t.size ≤ 100 := by
  simp [S.great] at h
  exact ⟨by omega, fun g hg => by have := h.2 g hg; omega⟩

theorem great_any (A : Option Addr) (c B : Nat) (gs : List S.G) (w : World) (hr : Reads w B 3 A gs.length (gs.flatMap S.G.cells)) (hm : gs.length ≤ maxLen) (hs : ∀ g ∈ gs, g.t.size ≤ maxLen) :
    Calls Try.prog 11 #[.slice A gs.length c] w fun e w' => e = .returned (.bool (S.great gs)) ∧ w = w' := by
  unfold maxLen at hm hs
  by_cases h60 : 200 < gs.length
  · have H : Hid (S.great gs = true) := Lib.hid (by simp [S.great, h60])
    go_enter Try.func11, Try.ntmps11
    go_wp2
    go_ret
    exact ⟨ret_bool H.out.symm, rfl⟩
  · go_enter Try.func11, Try.ntmps11
    go_wp2
    go_loop [3] (fun i => ∃ k : Nat, k ≤ gs.length ∧ i = .int .i64 k ∧ Hid (∀ j g, j < k → gs[j]? = some g → g.t.size ≤ 100)) (fun i => gs.length - (intOf i).toNat)
    case atStart => exact ⟨0, Nat.zero_le _, rfl, Lib.hid (fun j _ h => absurd h (by omega))⟩
    case round =>
      obtain ⟨k, hk, rfl, hprev⟩ := hrel
      by_cases hlt : k < gs.length
      · obtain ⟨b, off, rfl, hlo, hc⟩ := hr.glyph (by omega)
        obtain ⟨c0, c1, c2⟩ := hc k hlt
        have hsm := hs _ (List.getElem_mem hlt)
        have hk? : gs[k]? = some gs[k] := List.getElem?_eq_getElem hlt
        have HK := Lib.hid hk?
        clear hk? hc hs hr
        generalize gs[k] = g at *
        by_cases hbig : 100 < g.t.size
        · go_wp2
          go_ret
          refine ⟨ret_bool ?_, rfl⟩
          have : S.great gs = true := by
            simp only [S.great, Bool.or_eq_true, List.any_eq_true]
            exact .inr ⟨g, List.mem_of_getElem? HK.out, by simpa using hbig⟩
          exact this.symm
        · go_wp2
          go_round
          case rel => exact ⟨k + 1, hlt, by go_num, Lib.hid (fun j g' hj hs' => by
            by_cases hjk : j = k
            · subst hjk; rw [HK.out] at hs'; injection hs' with hs'; subst hs'; omega
            · exact hprev.out j g' (by omega) hs')⟩
          case measure => simp [intOf] <;> omega
      · have hkk : k = gs.length := by omega
        subst hkk
        clear hs hr
        go_wp2
        go_ret
        refine ⟨ret_bool ?_, rfl⟩
        have : S.great gs = false := by
          simp only [S.great, Bool.or_eq_false_iff, List.any_eq_false, decide_eq_false_iff_not]
          refine ⟨h60, fun g hg => ?_⟩
          obtain ⟨j, hj, rfl⟩ := List.getElem_of_mem hg
          have := hprev.out j _ hj (List.getElem?_eq_getElem hj)
          simpa using this
        exact this.symm

set_option maxRecDepth 10000 in
theorem blank_any (t : ByteArray) (wd : Bool) (st : Int) (w : World) (ht : t.size ≤ maxLen) :
    Calls Try.prog 15 #[.agg #[.string t, .bool wd, .int .i64 st]] w fun e w' => e = .returned (.bool (S.kind t == 0)) ∧ Below w.heap.size w w' := by
  have hb : Below w.heap.size w (w.alloc (.cells #[.string t, .bool wd, .int .i64 st] 32)) := (Below.refl _ _).alloc (Nat.le_refl _) _
  have HB := Lib.hid hb
  clear hb
  have hcases : (t.toList.isEmpty = true ∧ t.toList = [] ∧ S.kind t = 0) ∨ (t.toList.isEmpty = false ∧ ¬ t.toList = [] ∧ (t.toList == [32]) = true ∧ S.kind t = 0) ∨ (t.toList.isEmpty = false ∧ ¬ t.toList = [] ∧ (t.toList == [32]) = false ∧ ¬ S.kind t = 0) := by
    rcases S.kc t with ⟨h, h0, hk⟩ | ⟨h, h0, h1, hs, hk⟩ | ⟨h, h0, h1, hs, hc, hk⟩ | ⟨h, h0, h1, hs, hc, hk⟩ | ⟨h, h0, h1, hs, hc, hd, hk⟩ | ⟨h, h0, h1, hs, hc, hd, hk⟩ | ⟨h, h0, h1, hs, hc, hd, hk⟩ | ⟨h, h0, h1, hs, hd, hk⟩ | ⟨h, h0, h1, hs, hc, hd, hk⟩ | ⟨h, h0, h1, hs, hc, hd, hk⟩ | ⟨h, h0, h1, hs, hc, hd, hk⟩ | ⟨h, h0, h1, hs, hc, hd, hk⟩
    · exact .inl ⟨h, h0, hk⟩
    · exact .inr (.inl ⟨h, h0, h1, hk⟩)
    all_goals exact .inr (.inr ⟨h, h0, h1, by omega⟩)
  rcases hcases with ⟨h, h0, hk⟩ | ⟨h, h0, h1, hk⟩ | ⟨h, h0, h1, hk⟩
  all_goals
    have HK := Lib.hid hk
    clear hk
    go_enter Try.func15, Try.ntmps15
    go_wp2
    go_ret
    exact ⟨ret_bool (by have := HK.out; simp [this]), HB.out⟩
end Go.Proofs.Ythfpiomooomhoaa
