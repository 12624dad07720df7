/-
  The walks of layer 18: glyphs, and whether two rows of them are equal. By an AI agent.
-/
import Derived.StillTailTactics
import Derived.Deep.QuietTactic
import Derived.Lib.Hide
import Derived.Laws.StructEq
import Derived.Laws.Pointers
import Derived.Laws.Small
import Derived.Deep.LoopGhost
import Derived.Test.YthohninbelhddaaAppend
import Derived.Test.YthohninbelhddaaPlain
import Derived.Test.YthohninbelhddaaPlain2
import Derived.Test.YthohninbelhddaaProg
namespace Go.Proofs.Ythohninbelhddaa
open Go.RowKit

namespace C
/-- A glyph. -/
structure Gl where
  t : ByteArray
  wd : Bool
  st : Int
deriving DecidableEq
def Gl.cells (g : Gl) : List Value := [.string g.t, .bool g.wd, .int .i64 g.st]
theorem glD {w : World} {B : Nat} {A : Option Addr} {xs : List Gl} (h : Reads w B 3 A xs.length (xs.flatMap Gl.cells)) (hn : 0 < xs.length) :
    ∃ b off, A = some ⟨b, off, none⟩ ∧ b < B ∧ ∀ k (hk : k < xs.length), w.cell? ⟨b, off + k * 3, none⟩ = some (.string xs[k].t) ∧ w.cell? ⟨b, off + k * 3 + 1, none⟩ = some (.bool xs[k].wd) ∧ w.cell? ⟨b, off + k * 3 + 2, none⟩ = some (.int .i64 xs[k].st) := by
  obtain ⟨b, off, hA, hb, hc⟩ := h.flat hn (by decide)
  refine ⟨b, off, hA, hb, fun k hk => ?_⟩
  have c : ∀ j u, j < 3 → (xs[k].cells)[j]? = some u → w.cell? ⟨b, off + (k * 3 + j), none⟩ = some u := fun j u hj hu => hc (k * 3 + j) u (by
    rw [flat_get Gl.cells 3 xs (fun _ => rfl) k j hj, List.getElem?_eq_getElem hk]
    exact hu)
  exact ⟨c 0 _ (by decide) rfl, c 1 _ (by decide) rfl, c 2 _ (by decide) rfl⟩
end C

theorem bytes_eq (a b : ByteArray) : (a.toList == b.toList) = decide (a = b) := by
  rw [ByteArray.toList_eq, ByteArray.toList_eq]
  obtain ⟨⟨x⟩⟩ := a
  obtain ⟨⟨y⟩⟩ := b
  by_cases h : x = y <;> simp [h]
theorem bytes_iff {a b : ByteArray} : (a.toList = b.toList) = (a = b) := by
  have h := bytes_eq a b
  by_cases e : a = b
  · simp [e]
  · rw [decide_eq_false e] at h
    exact propext ⟨fun h' => absurd h' (beq_eq_false_iff_ne.1 h), fun h' => absurd h' e⟩
theorem guard44 : Try.prog.eqGuardType Try.prog.depth 44 = false := by kernel_rfl
theorem C.gl_ne {x y : C.Gl} (h : x ≠ y) : ¬ x.t.toList = y.t.toList ∨ (x.t.toList = y.t.toList ∧ ¬ x.wd = y.wd) ∨ (x.t.toList = y.t.toList ∧ x.wd = y.wd ∧ ¬ x.st = y.st) := by
  obtain ⟨a, b, c⟩ := x
  obtain ⟨a', b', c'⟩ := y
  rw [bytes_iff]
  by_cases h1 : a = a' <;> by_cases h2 : b = b' <;> by_cases h3 : c = c' <;> simp_all

attribute [local go_sem] guard44
set_option maxRecDepth 10000 in
set_option maxHeartbeats 4000000 in
theorem equal35 (A1 A2 : Option Addr) (c1 c2 B : Nat) (a b : List C.Gl) (w : World) (ha : Reads w B 3 A1 a.length (a.flatMap C.Gl.cells)) (hb : Reads w B 3 A2 b.length (b.flatMap C.Gl.cells)) (hna : a.length ≤ maxLen) (hnb : b.length ≤ maxLen) :
    Calls Try.prog 35 #[.slice A1 a.length c1, .slice A2 b.length c2] w fun e w' => e = .returned (.bool (decide (a = b))) ∧ ∃ n, w' = w.drewN n := by
  have HA := Lib.hid ha
  have HB := Lib.hid hb
  unfold maxLen at hna hnb
  clear ha hb
  by_cases hl : a.length = b.length
  · have HL := Lib.hid hl
    have hl1 : ((a.length : Int) != (b.length : Int)) = false := by simp [hl]
    have hle : b.length ≤ a.length := by omega
    have hle2 : a.length ≤ b.length := by omega
    clear hl
    go_enter Try.func35, Try.ntmps35
    go_wp2
    go_loopw [13] (fun i wr => ∃ k : Nat, k ≤ a.length ∧ i = .int .i64 k ∧ Hid (∀ j (h : j < k) (h1 : j < a.length) (h2 : j < b.length), a[j] = b[j]) ∧ ∃ n, wr = w.drewN n) (fun i _ => a.length - (intOf i).toNat)
    case atStart => exact ⟨0, Nat.zero_le _, rfl, Lib.hid (fun j h => absurd h (by omega)), 0, rfl⟩
    case round =>
      obtain ⟨k, hk, rfl, hprev, n, rfl⟩ := hrel
      by_cases hlt : k < a.length
      · obtain ⟨b1, o1, rfl, _, h1⟩ := C.glD HA.out (by omega)
        obtain ⟨b2, o2, rfl, _, h2⟩ := C.glD HB.out (by omega)
        obtain ⟨x0, x1, x2⟩ := h1 k hlt
        obtain ⟨y0, y1, y2⟩ := h2 k (by omega)
        have q1 : (0 : Int) ≤ (k : Int) := by omega
        have q2 : (k : Int) < (a.length : Int) := by omega
        have q3 : (k : Int) < (b.length : Int) := by omega
        clear h1 h2
        by_cases hxy : a[k] = b[k]'(by omega)
        · have hp2 : Hid (∀ j (h : j < k + 1) (h1 : j < a.length) (h2 : j < b.length), a[j] = b[j]) := Lib.hid (fun j hj g1 g2 => by
            by_cases e : j = k
            · subst e; exact hxy
            · exact hprev.out j (by omega) g1 g2)
          rw [hxy] at x0 x1 x2
          clear hxy hprev
          generalize b[k]'(by omega) = y at *
          go_wp2_with fail
          go_quiet (fail)
          go_wp2
          go_roundw
          case rel => exact ⟨k + 1, hlt, by go_num, hp2, n + nq, by simp⟩
          case measure => simp [intOf] <;> omega
        · have hne : Hid (decide (a = b) = false) := Lib.hid (decide_eq_false (fun e => hxy (by subst e; rfl)))
          have hcs := C.gl_ne hxy
          clear hxy
          generalize b[k]'(by omega) = y at *
          generalize a[k] = x at *
          rcases hcs with g1 | ⟨g1, g2⟩ | ⟨g1, g2, g3⟩
          all_goals
            go_wp2_with fail
            go_quiet (fail)
            go_wp2
            go_ret
            exact ⟨ret_bool hne.out.symm, n + nq, by simp⟩
      · obtain rfl : k = a.length := by omega
        have he : Hid (decide (a = b) = true) := Lib.hid (decide_eq_true (List.ext_getElem HL.out (fun j g1 g2 => hprev.out j g1 g1 g2)))
        go_wp2
        go_ret
        exact ⟨ret_bool he.out.symm, n, rfl⟩
  · have hne : Hid (decide (a = b) = false) := Lib.hid (decide_eq_false (fun e => hl (by rw [e])))
    have hl1 : ((a.length : Int) != (b.length : Int)) = true := by rw [bne_iff_ne]; omega
    go_enter Try.func35, Try.ntmps35
    go_wp2
    go_ret
    exact ⟨ret_bool hne.out.symm, 0, rfl⟩
set_option maxRecDepth 10000 in
set_option maxHeartbeats 4000000 in
theorem samerow_any (A1 A2 : Option Addr) (c1 c2 B : Nat) (a b : List C.Gl) (w : World) (ha : Reads w B 3 A1 a.length (a.flatMap C.Gl.cells)) (hb : Reads w B 3 A2 b.length (b.flatMap C.Gl.cells)) (hna : a.length ≤ maxLen) (hnb : b.length ≤ maxLen) :
    Calls Try.prog 22 #[.slice A1 a.length c1, .slice A2 b.length c2] w fun e w' => e = .returned (.bool (decide (a = b))) ∧ ∃ n, w' = w.drewN n := by
  have HA := Lib.hid ha
  have HB := Lib.hid hb
  unfold maxLen at hna hnb
  clear ha hb
  by_cases hl : a.length = b.length
  · have HL := Lib.hid hl
    have hl1 : ((a.length : Int) != (b.length : Int)) = false := by simp [hl]
    have hle : b.length ≤ a.length := by omega
    have hle2 : a.length ≤ b.length := by omega
    clear hl
    go_enter Try.func22, Try.ntmps22
    go_wp2
    go_loopw [5] (fun i wr => ∃ k : Nat, k ≤ a.length ∧ i = .int .i64 k ∧ Hid (∀ j (h : j < k) (h1 : j < a.length) (h2 : j < b.length), a[j] = b[j]) ∧ ∃ n, wr = w.drewN n) (fun i _ => a.length - (intOf i).toNat)
    case atStart => exact ⟨0, Nat.zero_le _, rfl, Lib.hid (fun j h => absurd h (by omega)), 0, rfl⟩
    case round =>
      obtain ⟨k, hk, rfl, hprev, n, rfl⟩ := hrel
      by_cases hlt : k < a.length
      · obtain ⟨b1, o1, rfl, _, h1⟩ := C.glD HA.out (by omega)
        obtain ⟨b2, o2, rfl, _, h2⟩ := C.glD HB.out (by omega)
        obtain ⟨x0, x1, x2⟩ := h1 k hlt
        obtain ⟨y0, y1, y2⟩ := h2 k (by omega)
        have q1 : (0 : Int) ≤ (k : Int) := by omega
        have q2 : (k : Int) < (a.length : Int) := by omega
        have q3 : (k : Int) < (b.length : Int) := by omega
        clear h1 h2
        by_cases hxy : a[k] = b[k]'(by omega)
        · have hp2 : Hid (∀ j (h : j < k + 1) (h1 : j < a.length) (h2 : j < b.length), a[j] = b[j]) := Lib.hid (fun j hj g1 g2 => by
            by_cases e : j = k
            · subst e; exact hxy
            · exact hprev.out j (by omega) g1 g2)
          rw [hxy] at x0 x1 x2
          clear hxy hprev
          generalize b[k]'(by omega) = y at *
          go_wp2_with fail
          go_quiet (fail)
          go_wp2
          go_roundw
          case rel => exact ⟨k + 1, hlt, by go_num, hp2, n + nq, by simp⟩
          case measure => simp [intOf] <;> omega
        · have hne : Hid (decide (a = b) = false) := Lib.hid (decide_eq_false (fun e => hxy (by subst e; rfl)))
          have hcs := C.gl_ne hxy
          clear hxy
          generalize b[k]'(by omega) = y at *
          generalize a[k] = x at *
          rcases hcs with g1 | ⟨g1, g2⟩ | ⟨g1, g2, g3⟩
          all_goals
            go_wp2_with fail
            go_quiet (fail)
            go_wp2
            go_ret
            exact ⟨ret_bool hne.out.symm, n + nq, by simp⟩
      · obtain rfl : k = a.length := by omega
        have he : Hid (decide (a = b) = true) := Lib.hid (decide_eq_true (List.ext_getElem HL.out (fun j g1 g2 => hprev.out j g1 g1 g2)))
        go_wp2
        go_ret
        exact ⟨ret_bool he.out.symm, n, rfl⟩
  · have hne : Hid (decide (a = b) = false) := Lib.hid (decide_eq_false (fun e => hl (by rw [e])))
    have hl1 : ((a.length : Int) != (b.length : Int)) = true := by rw [bne_iff_ne]; omega
    go_enter Try.func22, Try.ntmps22
    go_wp2
    go_ret
    exact ⟨ret_bool hne.out.symm, 0, rfl⟩

theorem equal_any (A1 A2 : Option Addr) (c1 c2 B : Nat) (a b : List C.Gl) (w : World) (ha : Reads w B 3 A1 a.length (a.flatMap C.Gl.cells)) (hb : Reads w B 3 A2 b.length (b.flatMap C.Gl.cells)) (hna : a.length ≤ maxLen) (hnb : b.length ≤ maxLen) :
    Calls Try.prog 33 #[.slice A1 a.length c1, .slice A2 b.length c2] w fun e w' => e = .returned (.bool (decide (a = b))) ∧ ∃ n, w' = w.drewN n := by
  have E := Lib.hid (equal35 A1 A2 c1 c2 B a b w ha hb hna hnb)
  clear ha hb
  go_enter Try.func33, Try.ntmps33
  go_wp2_with fail
  refine E.out.mono ?_
  rintro e w' ⟨rfl, n, rfl⟩
  go_wp2_with fail
  go_ret
  exact ⟨rfl, n, rfl⟩
end Go.Proofs.Ythohninbelhddaa
