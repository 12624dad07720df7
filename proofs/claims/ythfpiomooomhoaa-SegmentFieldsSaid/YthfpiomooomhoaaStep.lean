/-
  The walks of layer 22: the next span, by the program and the reference. By an AI agent.
-/
import Derived.Test.YthfpiomooomhoaaAwake2
namespace Go.Proofs.Ythfpiomooomhoaa
open Go.RowKit

/-- The cells of a span whose numbers are whatever they are. -/
def S.zc (x : Int × Int) : List Value := [.int .i64 x.1, .int .i64 x.2]
def S.zv (x : Int × Int) : Value := .agg #[.int .i64 x.1, .int .i64 x.2]

theorem Reads.zspan {w : World} {B : Nat} {A : Option Addr} {l : List (Int × Int)} (h : Reads w B 2 A l.length (l.flatMap S.zc)) (hn : 0 < l.length) :
    ∃ b off, A = some ⟨b, off, none⟩ ∧ b < B ∧ ∀ k, k < l.length → w.cell? ⟨b, off + k * 2, none⟩ = some (.int .i64 (l.getD k (0, 0)).1) ∧ w.cell? ⟨b, off + k * 2 + 1, none⟩ = some (.int .i64 (l.getD k (0, 0)).2) := by
  obtain ⟨b, off, e, hb, hc⟩ := h.flat hn (by decide)
  refine ⟨b, off, e, hb, fun k hk => ?_⟩
  have hg := fun j hj => flat_get S.zc 2 l (fun g => rfl) k j hj
  have e0 := hg 0 (by decide)
  have e1 := hg 1 (by decide)
  rw [List.getElem?_eq_getElem hk] at e0 e1
  have : l.getD k (0, 0) = l[k] := by simp [List.getD, hk]
  rw [this]
  exact ⟨hc (k * 2 + 0) _ e0, hc (k * 2 + 1) _ e1⟩

def S.nextI (l : List (Int × Int)) (at_ : Int) : Nat := l.findIdx fun x => decide (at_ < x.1)
def S.next (l : List (Int × Int)) (at_ : Int) : (Int × Int) × Bool := if S.nextI l at_ < l.length then (l.getD (S.nextI l at_) (0, 0), true) else ((0, 0), false)

def S.nextZ (l : List (Int × Int)) (at_ : Int) : Int := if S.nextI l at_ < l.length then (S.nextI l at_ : Int) else -1

theorem S.nextI_at {l : List (Int × Int)} {at_ : Int} {k : Nat} (hk : k < l.length) (h : ∀ j, j < k → (l.getD j (0, 0)).1 ≤ at_) (h1 : at_ < (l.getD k (0, 0)).1) : S.nextI l at_ = k := by
  unfold S.nextI
  have e : ∀ j (hj : j < l.length), l.getD j (0, 0) = l[j] := fun j hj => by simp [List.getD, hj]
  rw [List.findIdx_eq hk]
  refine ⟨by rw [← e k hk]; simpa using h1, fun j hj => ?_⟩
  have := h j hj
  rw [e j (by omega)] at this
  simpa using this
theorem S.nextI_none {l : List (Int × Int)} {at_ : Int} (h : ∀ j, j < l.length → (l.getD j (0, 0)).1 ≤ at_) : S.nextI l at_ = l.length := by
  unfold S.nextI
  rw [List.findIdx_eq_length]
  intro g hg
  obtain ⟨j, hj, rfl⟩ := List.getElem_of_mem hg
  have := h j hj
  have e : l.getD j (0, 0) = l[j] := by simp [List.getD, hj]
  rw [e] at this
  simpa using this
theorem S.next_at {l : List (Int × Int)} {at_ : Int} {k : Nat} (hk : k < l.length) (h : ∀ j, j < k → (l.getD j (0, 0)).1 ≤ at_) (h1 : at_ < (l.getD k (0, 0)).1) : S.next l at_ = (l.getD k (0, 0), true) := by
  unfold S.next
  rw [S.nextI_at hk h h1, if_pos hk]
theorem S.next_none {l : List (Int × Int)} {at_ : Int} (h : ∀ j, j < l.length → (l.getD j (0, 0)).1 ≤ at_) : S.next l at_ = ((0, 0), false) := by
  unfold S.next
  rw [S.nextI_none h, if_neg (by omega)]

theorem nextc_any (Bx : Nat) (at_ a b : Int) (w : World) (hx : w.cell? ⟨Bx, 0, none⟩ = some (.int .i64 at_)) (hxl : Bx < w.heap.size) :
    Calls Try.prog 38 #[.agg #[.int .i64 a, .int .i64 b], .pointer (some ⟨Bx, 0, none⟩)] w fun e w' => e = .returned (.bool (decide (at_ < a))) ∧ Below w.heap.size w w' := by
  have hb : Below w.heap.size w (w.alloc (.cells #[.int .i64 a, .int .i64 b] 34)) := (Below.refl _ _).alloc (Nat.le_refl _) _
  have HB := Lib.hid hb
  clear hb
  go_enter Try.func38, Try.ntmps38
  go_wp2
  go_ret
  exact ⟨rfl, HB.out⟩

theorem nextx_any (Bx : Nat) (at_ : Int) (A : Option Addr) (c B : Nat) (l : List (Int × Int)) (w : World) (hx : w.cell? ⟨Bx, 0, none⟩ = some (.int .i64 at_)) (hxl : Bx < w.heap.size) (hr : Reads w B 2 A l.length (l.flatMap S.zc)) (hB : B ≤ w.heap.size) (hm : l.length ≤ 1000000) :
    Calls Try.prog 37 #[.slice A l.length c, .func (.func 38) #[] #[.pointer (some ⟨Bx, 0, none⟩)]] w fun e w' => e = .returned (.int .i64 (S.nextZ l at_)) ∧ Below w.heap.size w w' := by
  have HR := Lib.hid hr
  have HX := Lib.hid hx
  clear hr hx
  go_enter Try.func37, Try.ntmps37
  go_wp2
  go_loopw [8] (fun i wr => ∃ k : Nat, k ≤ l.length ∧ i = .int .i64 k ∧ Hid (∀ j, j < k → (l.getD j (0, 0)).1 ≤ at_) ∧ Below w.heap.size w wr) (fun i _ => l.length - (intOf i).toNat)
  case atStart => exact ⟨0, Nat.zero_le _, rfl, Lib.hid (fun j h => absurd h (by omega)), Below.refl _ _⟩
  case round =>
    obtain ⟨k, hk, rfl, hprev, hb⟩ := hrel
    by_cases hlt : k < l.length
    · obtain ⟨b, off, rfl, hlo, hc⟩ := (HR.out.below hb hB).zspan (by omega)
      obtain ⟨c0, c1⟩ := hc k hlt
      have hbs := hb.size
      have NB := nextc_any Bx at_ (l.getD k (0, 0)).1 (l.getD k (0, 0)).2 wr ((hb.cell (p := ⟨Bx, 0, none⟩) hxl).trans HX.out) (by omega)
      by_cases h0 : at_ < (l.getD k (0, 0)).1
      · have hI : Hid (S.nextI l at_ = k) := Lib.hid (S.nextI_at hlt hprev.out h0)
        rw [decide_eq_true h0] at NB
        clear h0 hc hprev
        generalize l.getD k (0, 0) = g at *
        go_wp2_with (go_at_call 38; refine NB.mono ?_; clear NB; rintro e w' ⟨rfl, h2⟩)
        go_ret
        exact ⟨ret_int (by rw [S.nextZ, hI.out, if_pos hlt]), hb.trans (h2.mono hb.size)⟩
      · have hprev2 : Hid (∀ j, j < k + 1 → (l.getD j (0, 0)).1 ≤ at_) := Lib.hid (fun j hj => by
          by_cases e : j = k
          · subst e; omega
          · exact hprev.out j (by omega))
        rw [decide_eq_false h0] at NB
        clear h0 hc hprev
        generalize l.getD k (0, 0) = g at *
        go_wp2_with (go_at_call 38; refine NB.mono ?_; clear NB; rintro e w' ⟨rfl, h2⟩)
        go_roundw
        case rel => exact ⟨k + 1, hlt, by go_num, hprev2, hb.trans (h2.mono hb.size)⟩
        case measure => simp [intOf] <;> omega
    · obtain rfl : k = l.length := by omega
      have hI : Hid (S.nextI l at_ = l.length) := Lib.hid (S.nextI_none hprev.out)
      go_wp2
      go_ret
      exact ⟨ret_int (by rw [S.nextZ, hI.out, if_neg (by omega)]), hb⟩

set_option maxHeartbeats 4000000 in
theorem next_any (at_ : Int) (A : Option Addr) (c B : Nat) (l : List (Int × Int)) (w : World) (hr : Reads w B 2 A l.length (l.flatMap S.zc)) (hB : B ≤ w.heap.size) (hm : l.length ≤ 1000000) :
    Calls Try.prog 23 #[.slice A l.length c, .int .i64 at_] w fun e w' => e = .returned (.tuple #[S.zv (S.next l at_).1, .bool (S.next l at_).2]) ∧ Below w.heap.size w w' := by
  have b0 : Below w.heap.size w ((w.alloc (.cells #[.int .i64 at_] 3)).alloc (.cells #[.int .i64 0, .int .i64 0] 34)) := ((Below.refl _ w).alloc (Nat.le_refl _) _).alloc (by simp) _
  have IX := nextx_any w.heap.size at_ A c B l ((w.alloc (.cells #[.int .i64 at_] 3)).alloc (.cells #[.int .i64 0, .int .i64 0] 34)) (by simp [go_sem]) (by simp; omega) (hr.below b0 hB) (by simp; omega) hm
  by_cases h : S.nextI l at_ < l.length
  · have hn : S.next l at_ = (l.getD (S.nextI l at_) (0, 0), true) := by unfold S.next; rw [if_pos h]
    rw [S.nextZ, if_pos h] at IX
    rw [hn]
    clear hn
    obtain ⟨b, off, rfl, hlo, hc⟩ := hr.zspan (by omega)
    obtain ⟨c0, c1⟩ := hc _ h
    generalize S.nextI l at_ = k at *
    generalize l.getD k (0, 0) = g at *
    clear hc hr
    have B0 := Lib.hid b0
    clear b0
    go_enter Try.func23, Try.ntmps23
    go_wp2_with fail
    refine IX.mono ?_
    clear IX
    rintro e w1 ⟨rfl, hb1⟩
    have hz := hb1.size
    simp at hz
    have h1 := hb1.cell (p := ⟨w.heap.size + 1, 0, none⟩) (by simp)
    have h2 := hb1.cell (p := ⟨w.heap.size + 1, 1, none⟩) (by simp)
    have f1 := hb1.frozen (p := ⟨w.heap.size + 1, 0, none⟩) (by simp)
    have f2 := hb1.frozen (p := ⟨w.heap.size + 1, 1, none⟩) (by simp)
    have d0 := ((B0.out.trans (hb1.mono B0.out.size)).cell (p := ⟨b, off + k * 2, none⟩) (by simp; omega)).trans c0
    have d1 := ((B0.out.trans (hb1.mono B0.out.size)).cell (p := ⟨b, off + k * 2 + 1, none⟩) (by simp; omega)).trans c1
    have HB1 : Hid (Below w.heap.size w w1) := Lib.hid (B0.out.trans (hb1.mono B0.out.size))
    simp [go_sem] at h1 h2 f1 f2
    clear hb1
    go_wp2
    refine bodyPost_ret (v := .tuple #[S.zv g, .bool true]) (by simp [results, Try.results23, go_sem, S.zv, *]) rfl ⟨rfl, ?_⟩
    exact (HB1.out.setCell (by simp) _).setCell (by simp) _
  · have hn : S.next l at_ = ((0, 0), false) := by unfold S.next; rw [if_neg h]
    rw [S.nextZ, if_neg h] at IX
    rw [hn]
    clear hn hr h
    have B0 := Lib.hid b0
    clear b0
    go_enter Try.func23, Try.ntmps23
    go_wp2_with fail
    refine IX.mono ?_
    clear IX
    rintro e w1 ⟨rfl, hb1⟩
    have hz := hb1.size
    simp at hz
    have h1 := hb1.cell (p := ⟨w.heap.size + 1, 0, none⟩) (by simp)
    have h2 := hb1.cell (p := ⟨w.heap.size + 1, 1, none⟩) (by simp)
    have f1 := hb1.frozen (p := ⟨w.heap.size + 1, 0, none⟩) (by simp)
    have f2 := hb1.frozen (p := ⟨w.heap.size + 1, 1, none⟩) (by simp)
    have HB1 : Hid (Below w.heap.size w w1) := Lib.hid (B0.out.trans (hb1.mono B0.out.size))
    simp [go_sem] at h1 h2 f1 f2
    clear hb1
    go_wp2
    refine bodyPost_ret (v := .tuple #[S.zv (0, 0), .bool false]) (by simp [results, Try.results23, go_sem, S.zv, *]) rfl ⟨rfl, ?_⟩
    exact (HB1.out.setCell (by simp) _).setCell (by simp) _

set_option maxHeartbeats 4000000 in
theorem refnext_any (at_ : Int) (A : Option Addr) (c B : Nat) (l : List (Int × Int)) (w : World) (hr : Reads w B 2 A l.length (l.flatMap S.zc)) (hB : B ≤ w.heap.size) (hm : l.length ≤ 1000000) :
    Calls Try.prog 24 #[.slice A l.length c, .int .i64 at_] w fun e w' => e = .returned (.tuple #[S.zv (S.next l at_).1, .bool (S.next l at_).2]) ∧ Below w.heap.size w w' := by
  have HR := Lib.hid hr
  clear hr
  go_enter Try.func24, Try.ntmps24
  go_wp2
  go_loop [6] (fun i => ∃ k : Nat, k ≤ l.length ∧ i = .int .i64 k ∧ Hid (∀ j, j < k → (l.getD j (0, 0)).1 ≤ at_)) (fun i => l.length - (intOf i).toNat)
  case atStart => exact ⟨0, Nat.zero_le _, rfl, Lib.hid (fun j h => absurd h (by omega))⟩
  case round =>
    obtain ⟨k, hk, rfl, hprev⟩ := hrel
    by_cases hlt : k < l.length
    · obtain ⟨b, off, rfl, hlo, hc⟩ := HR.out.zspan (by omega)
      obtain ⟨c0, c1⟩ := hc k hlt
      have hbl : b < w.heap.size := by omega
      by_cases h0 : at_ < (l.getD k (0, 0)).1
      · have hI : Hid (S.next l at_ = (l.getD k (0, 0), true)) := Lib.hid (S.next_at hlt hprev.out h0)
        clear hc hprev
        generalize l.getD k (0, 0) = g at *
        go_wp2
        refine bodyPost_ret (v := .tuple #[S.zv g, .bool true]) (by simp [results, Try.results24, go_sem, S.zv]) rfl ⟨by rw [hI.out], ?_⟩
        first | exact ((Below.refl _ _).alloc (Nat.le_refl _) _) | exact (((Below.refl _ _).alloc (Nat.le_refl _) _).setCell (by simp) _).setCell (by simp) _
      · have hprev2 : Hid (∀ j, j < k + 1 → (l.getD j (0, 0)).1 ≤ at_) := Lib.hid (fun j hj => by
          by_cases e : j = k
          · subst e; omega
          · exact hprev.out j (by omega))
        clear hc hprev
        generalize l.getD k (0, 0) = g at *
        go_wp2
        go_round
        case rel => exact ⟨k + 1, hlt, by go_num, hprev2⟩
        case measure => simp [intOf] <;> omega
    · obtain rfl : k = l.length := by omega
      have hI : Hid (S.next l at_ = ((0, 0), false)) := Lib.hid (S.next_none hprev.out)
      go_wp2
      refine bodyPost_ret (v := .tuple #[S.zv (0, 0), .bool false]) (by simp [results, Try.results24, go_sem, S.zv]) rfl ⟨by rw [hI.out], ?_⟩
      first | exact ((Below.refl _ _).alloc (Nat.le_refl _) _) | exact (((Below.refl _ _).alloc (Nat.le_refl _) _).setCell (by simp) _).setCell (by simp) _
end Go.Proofs.Ythfpiomooomhoaa
