/-
  The walks of layer 30: lists of regions in memory; Great, Has, the equality of lists, Clone. By an AI agent.
-/
import Derived.Test.YtoemhphgnpedmaaLk
import Derived.Test.YtoemhphgnpedmaaOmt
import Derived.Test.YtoemhphgnpedmaaRch
namespace Go.Proofs.Ytoemhphgnpedmaa
open Go.RowKit

theorem I.cells_len (g : I.Rg) : g.cells.length = 8 := rfl
def I.rcs (l : List I.Rg) : List Value := l.flatMap I.Rg.cells
theorem I.rcs_one (l : List I.Rg) : ∀ u ∈ I.rcs l, u.oneCell' = true := by
  intro u hu
  simp only [I.rcs, List.mem_flatMap, I.Rg.cells, List.mem_cons, List.not_mem_nil, or_false] at hu
  obtain ⟨r, _, h⟩ := hu
  rcases h with rfl | rfl | rfl | rfl | rfl | rfl | rfl | rfl <;> rfl
theorem infoRg : (Try.prog.info? 27).map (fun i => (i.zero, i.size, i.bytes)) = some (some (.agg #[.int .i64 0, .int .i64 0, .int .i64 0, .int .i64 0, .int .i64 0, .int .i64 0, .int .i64 0, .string .empty]), 8, 72) := by kernel_rfl
/-- The cells of a region at a place. -/
structure I.At (w : World) (b o : Nat) (r : I.Rg) : Prop where
  c0 : w.cell? ⟨b, o, none⟩ = some (.int .i64 r.kind)
  c1 : w.cell? ⟨b, o + 1, none⟩ = some (.int .i64 r.id)
  c2 : w.cell? ⟨b, o + 2, none⟩ = some (.int .i64 r.parent)
  c3 : w.cell? ⟨b, o + 3, none⟩ = some (.int .i64 r.top)
  c4 : w.cell? ⟨b, o + 4, none⟩ = some (.int .i64 r.left)
  c5 : w.cell? ⟨b, o + 5, none⟩ = some (.int .i64 r.bottom)
  c6 : w.cell? ⟨b, o + 6, none⟩ = some (.int .i64 r.right)
  c7 : w.cell? ⟨b, o + 7, none⟩ = some (.string r.label)
theorem I.At.below {w w' : World} {b o B : Nat} {r : I.Rg} (h : I.At w b o r) (hb : Below B w w') (hB : b < B) : I.At w' b o r :=
  have k := fun o' => hb.cell (p := ⟨b, o', none⟩) hB
  ⟨(k _).trans h.c0, (k _).trans h.c1, (k _).trans h.c2, (k _).trans h.c3, (k _).trans h.c4, (k _).trans h.c5, (k _).trans h.c6, (k _).trans h.c7⟩
theorem I.At.drewN {w : World} {b o : Nat} {r : I.Rg} (h : I.At w b o r) (n : Nat) : I.At (w.drewN n) b o r :=
  ⟨h.c0, h.c1, h.c2, h.c3, h.c4, h.c5, h.c6, h.c7⟩
theorem Reads.rg {w : World} {B : Nat} {A : Option Addr} {l : List I.Rg} (h : Reads w B 8 A l.length (I.rcs l)) (hn : 0 < l.length) :
    ∃ b off, A = some ⟨b, off, none⟩ ∧ b < B ∧ ∀ k, k < l.length → I.At w b (off + k * 8) (l.getD k default) := by
  obtain ⟨b, off, e, hb, hc⟩ := h.flat hn (by decide)
  refine ⟨b, off, e, hb, fun k hk => ?_⟩
  have hg := fun j hj => flat_get I.Rg.cells 8 l (fun g => rfl) k j hj
  have e0 := hg 0 (by decide)
  have e1 := hg 1 (by decide)
  have e2 := hg 2 (by decide)
  have e3 := hg 3 (by decide)
  have e4 := hg 4 (by decide)
  have e5 := hg 5 (by decide)
  have e6 := hg 6 (by decide)
  have e7 := hg 7 (by decide)
  rw [List.getElem?_eq_getElem hk] at e0 e1 e2 e3 e4 e5 e6 e7
  have : l.getD k default = l[k] := by simp [List.getD, hk]
  rw [this]
  exact ⟨hc (k * 8 + 0) _ e0, hc (k * 8 + 1) _ e1, hc (k * 8 + 2) _ e2, hc (k * 8 + 3) _ e3, hc (k * 8 + 4) _ e4, hc (k * 8 + 5) _ e5, hc (k * 8 + 6) _ e6, hc (k * 8 + 7) _ e7⟩
/-- A list of regions that can be in memory: labels are strings of the machine's. -/
def I.Ok (l : List I.Rg) : Prop := l.length ≤ maxLen ∧ ∀ g ∈ l, g.label.size ≤ maxLen
theorem I.Ok.at_ {l : List I.Rg} (h : I.Ok l) {k : Nat} (hk : k < l.length) : (l.getD k default).label.size ≤ maxLen := by
  have : l.getD k default = l[k] := by simp [List.getD, hk]
  rw [this]
  exact h.2 _ (List.getElem_mem hk)

def I.great (l : List I.Rg) (most : Nat) : Bool := decide (most < l.length) || l.any (fun g => decide (200 < g.label.size))
theorem I.great_false {l : List I.Rg} {most : Nat} (h : I.great l most = false) : l.length ≤ most ∧ ∀ g ∈ l, g.label.size ≤ 200 := by
  simp [I.great] at h
  exact ⟨by omega, fun g hg => by have := h.2 g hg; omega⟩
set_option maxHeartbeats 2000000 in
theorem great_any (A : Option Addr) (c B : Nat) (gs : List I.Rg) (most : Nat) (w : World) (hr : Reads w B 8 A gs.length (I.rcs gs)) (ho : I.Ok gs) (hmost : most ≤ 50) :
    Calls Try.prog 11 #[.slice A gs.length c, .int .i64 most] w fun e w' => e = .returned (.bool (I.great gs most)) ∧ w = w' := by
  obtain ⟨hm, hs⟩ := ho
  unfold maxLen at hm hs
  by_cases h60 : most < gs.length
  · have H : Hid (I.great gs most = true) := Lib.hid (by simp [I.great, h60])
    have h61 : decide (most < gs.length) = true := decide_eq_true h60
    go_enter Try.func11, Try.ntmps11
    go_wp2
    go_ret
    exact ⟨ret_bool H.out.symm, rfl⟩
  · have h61 : decide (most < gs.length) = false := decide_eq_false h60
    go_enter Try.func11, Try.ntmps11
    go_wp2
    go_loop [5] (fun i => ∃ k : Nat, k ≤ gs.length ∧ i = .int .i64 k ∧ Hid (∀ j g, j < k → gs[j]? = some g → g.label.size ≤ 200)) (fun i => gs.length - (intOf i).toNat)
    case atStart => exact ⟨0, Nat.zero_le _, rfl, Lib.hid (fun j _ h => absurd h (by omega))⟩
    case round =>
      obtain ⟨k, hk, rfl, hprev⟩ := hrel
      by_cases hlt : k < gs.length
      · obtain ⟨b, off, rfl, hlo, hc⟩ := hr.rg (by omega)
        have c7 := (hc k hlt).c7
        have hg : gs.getD k default = gs[k] := by simp [List.getD, hlt]
        rw [hg] at c7
        have hsm := hs _ (List.getElem_mem hlt)
        have hk? : gs[k]? = some gs[k] := List.getElem?_eq_getElem hlt
        have HK := Lib.hid hk?
        clear hk? hc hs hr hg
        generalize gs[k] = g at *
        by_cases hbig : 200 < g.label.size
        · go_wp2
          go_ret
          refine ⟨ret_bool ?_, rfl⟩
          have : I.great gs most = true := by
            simp only [I.great, Bool.or_eq_true, List.any_eq_true]
            exact .inr ⟨g, List.mem_of_getElem? HK.out, by simpa using hbig⟩
          exact this.symm
        · go_wp2
          go_round
          case rel => exact ⟨k + 1, hlt, by go_num, Lib.hid (fun j g' hj hs' => by
            by_cases hjk : j = k
            · subst hjk; rw [HK.out] at hs'; injection hs' with hs'; subst hs'; omega
            · exact hprev.out j g' (by omega) hs')⟩
          case measure => simp [intOf] <;> omega
      · have hkk : k = gs.length := by omega
        subst hkk
        clear hs hr
        go_wp2
        go_ret
        refine ⟨ret_bool ?_, rfl⟩
        have : I.great gs most = false := by
          simp only [I.great, Bool.or_eq_false_iff, List.any_eq_false, decide_eq_false_iff_not]
          refine ⟨h60, fun g hg => ?_⟩
          obtain ⟨j, hj, rfl⟩ := List.getElem_of_mem hg
          have := hprev.out j _ hj (List.getElem?_eq_getElem hj)
          simpa using this
        exact this.symm
/-- A region of the list has the ID. -/
def I.has (l : List I.Rg) (id : Int) : Bool := l.any fun g => g.id == id
set_option maxHeartbeats 2000000 in
theorem has_any (A : Option Addr) (c B : Nat) (gs : List I.Rg) (id : Int) (w : World) (hr : Reads w B 8 A gs.length (I.rcs gs)) (hm : gs.length ≤ maxLen) :
    Calls Try.prog 21 #[.slice A gs.length c, .int .i64 id] w fun e w' => e = .returned (.bool (I.has gs id)) ∧ w = w' := by
  unfold maxLen at hm
  go_enter Try.func21, Try.ntmps21
  go_wp2
  go_loop [5] (fun i => ∃ k : Nat, k ≤ gs.length ∧ i = .int .i64 k ∧ Hid (∀ j g, j < k → gs[j]? = some g → g.id ≠ id)) (fun i => gs.length - (intOf i).toNat)
  case atStart => exact ⟨0, Nat.zero_le _, rfl, Lib.hid (fun j _ h => absurd h (by omega))⟩
  case round =>
    obtain ⟨k, hk, rfl, hprev⟩ := hrel
    by_cases hlt : k < gs.length
    · obtain ⟨b, off, rfl, hlo, hc⟩ := hr.rg (by omega)
      have c1 := (hc k hlt).c1
      have hg : gs.getD k default = gs[k] := by simp [List.getD, hlt]
      rw [hg] at c1
      have hk? : gs[k]? = some gs[k] := List.getElem?_eq_getElem hlt
      have HK := Lib.hid hk?
      clear hk? hc hr hg
      generalize gs[k] = g at *
      by_cases hbig : g.id = id
      · have hb1 : (g.id == id) = true := beq_iff_eq.2 hbig
        have HB := Lib.hid hbig
        clear hbig
        go_wp2
        go_ret
        refine ⟨ret_bool ?_, rfl⟩
        have : I.has gs id = true := by
          simp only [I.has, List.any_eq_true]
          exact ⟨g, List.mem_of_getElem? HK.out, beq_iff_eq.2 HB.out⟩
        exact this.symm
      · have hb1 : (g.id == id) = false := beq_eq_false_iff_ne.2 hbig
        go_wp2
        go_round
        case rel => exact ⟨k + 1, hlt, by go_num, Lib.hid (fun j g' hj hs' => by
          by_cases hjk : j = k
          · subst hjk; rw [HK.out] at hs'; injection hs' with hs'; subst hs'; exact hbig
          · exact hprev.out j g' (by omega) hs')⟩
        case measure => simp [intOf] <;> omega
    · have hkk : k = gs.length := by omega
      subst hkk
      clear hr
      go_wp2
      go_ret
      refine ⟨ret_bool ?_, rfl⟩
      have : I.has gs id = false := by
        simp only [I.has, List.any_eq_false]
        intro g hg
        obtain ⟨j, hj, rfl⟩ := List.getElem_of_mem hg
        have := hprev.out j _ hj (List.getElem?_eq_getElem hj)
        simpa using this
      exact this.symm
/-- A list of regions that the call made. -/
def I.RsOut (l : List I.Rg) (w w' : World) (e : Ending) : Prop := ∃ v, e = .returned v ∧ w'.ownsRow w.heap.size 27 8 v l.length (I.rcs l) ∧ Below w.heap.size w w'
set_option maxHeartbeats 2000000 in
theorem clone_any (A : Option Addr) (cap B : Nat) (l : List I.Rg) (w : World) (hr : Reads w B 8 A l.length (I.rcs l)) (hB : B ≤ w.heap.size) (hl : l.length ≤ 1000) :
    Calls Try.prog 26 #[.slice A l.length cap] w fun e w' => I.RsOut l w w' e := by
  have hq := fun w A n => Lib.run_eql_slice_nil (P := Try.prog) w 22 27 A n cap 0 0 Try.underlying22
  cases A with
  | none =>
    have h0 : l.length = 0 := by
      rcases Nat.eq_zero_or_pos l.length with h | h
      · exact h
      · obtain ⟨ad, h, _⟩ := hr.2 h; cases h
    have : l = [] := List.eq_nil_of_length_eq_zero h0
    subst this
    clear hr h0
    go_enter Try.func26, Try.ntmps26
    go_wp2
    go_ret
    exact ⟨_, rfl, World.ownsRow_nil _ _ _ _, Below.refl _ _⟩
  | some ad =>
    have HR1 := (hr.alloc hB (.cells #[] 27))
    have own0 := World.ownsRow_lit (base := w.heap.size) (e := 27) (size := 8) w #[] 0 (Nat.le_refl _) (by decide) rfl
    have hb0 : Below w.heap.size w (w.alloc (.cells #[] 27)) := (Below.refl _ _).alloc (Nat.le_refl _) _
    obtain ⟨i0, hi0, hz0, hz1, hz2⟩ := info_parts infoRg
    clear hr
    go_enter Try.func26, Try.ntmps26
    go_wp2_with (at_builtin; refine wpList_append_any _ rfl (.tmp 5) (.tmp 6) _ rfl w.heap.size 27 i0 _ 8 72 Try.underlying22 hi0 hz0 hz1 hz2 rfl (by omega) (.slice (some ⟨w.heap.size, 0, none⟩) 0 0) 0 [] rfl own0 B (some ad) l.length cap _ rfl HR1 (I.rcs_one _) (by simp only [maxLen]; omega) (by omega) hb0.size ?_; intro v1 w1 hown1 hg1 hat1)
    simp only [Nat.zero_add, List.nil_append] at hown1
    go_ret
    exact ⟨_, rfl, hown1, hb0.grown hg1 hb0.size (own_below own0 (Nat.le_refl _))⟩
end Go.Proofs.Ytoemhphgnpedmaa
