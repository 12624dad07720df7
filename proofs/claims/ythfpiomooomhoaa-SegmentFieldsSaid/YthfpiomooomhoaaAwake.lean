/-
  The walks of layer 22: row, Same, awake. By an AI agent.
-/
import Derived.BigQuiet
import Derived.Test.YthfpiomooomhoaaFieldsW
namespace Go.Proofs.Ythfpiomooomhoaa
open Go.RowKit

/-- A row of spans: what its cells hold. -/
theorem Reads.span {w : World} {B : Nat} {A : Option Addr} {xs : List (Nat × Nat)} (h : Reads w B 2 A xs.length (xs.flatMap S.sc)) (hn : 0 < xs.length) :
    ∃ b off, A = some ⟨b, off, none⟩ ∧ b < B ∧ ∀ k (hk : k < xs.length), w.cell? ⟨b, off + k * 2, none⟩ = some (.int .i64 xs[k].1) ∧ w.cell? ⟨b, off + k * 2 + 1, none⟩ = some (.int .i64 xs[k].2) := by
  obtain ⟨b, off, e, hb, hc⟩ := h.flat hn (by decide)
  refine ⟨b, off, e, hb, fun k hk => ?_⟩
  have hg := fun j hj => flat_get S.sc 2 xs (fun g => rfl) k j hj
  have e0 := hg 0 (by decide)
  have e1 := hg 1 (by decide)
  rw [List.getElem?_eq_getElem hk] at e0 e1
  exact ⟨hc (k * 2 + 0) _ e0, hc (k * 2 + 1) _ e1⟩

/-- What a call has laid of its own it reads. -/
theorem own_span {w : World} {base : Nat} {v : Value} {xs : List (Nat × Nat)} (h : w.ownsRow base 34 2 v xs.length (xs.flatMap S.sc)) :
    ∃ A c, v = .slice A xs.length c ∧ Reads w w.heap.size 2 A xs.length (xs.flatMap S.sc) := by
  rcases h.2 with ⟨rfl, h0⟩ | ⟨g, cap, cur, rfl, _⟩
  · have : xs = [] := List.eq_nil_of_length_eq_zero h0
    subst this
    exact ⟨none, 0, rfl, Reads.none_⟩
  · exact ⟨_, _, rfl, Reads.of_own h⟩

theorem same_any (A A' : Option Addr) (c c' B : Nat) (xs ys : List (Nat × Nat)) (w : World) (hx : Reads w B 2 A xs.length (xs.flatMap S.sc)) (hy : Reads w B 2 A' ys.length (ys.flatMap S.sc)) (hm : xs.length ≤ 8796093021952) (hm' : ys.length ≤ 8796093021952) :
    Calls Try.prog 18 #[.slice A xs.length c, .slice A' ys.length c'] w fun e w' => e = .returned (.bool (xs == ys)) ∧ ∃ n, w' = w.drewN n := by
  by_cases hl : xs.length = ys.length
  · have hl' : ((xs.length : Int) != (ys.length : Int)) = false := by rw [hl]; simp
    have hL := Lib.hid hl
    clear hl
    go_enter Try.func18, Try.ntmps18
    go_wp2
    go_loopw [5] (fun p wr => ∃ k : Nat, p = .int .i64 k ∧ k ≤ xs.length ∧ Hid (∀ j (h : j < k) (h1 : j < xs.length) (h2 : j < ys.length), xs[j] = ys[j]) ∧ ∃ n, wr = w.drewN n) (fun p _ => xs.length - (intOf p).toNat)
    case atStart => exact ⟨0, rfl, Nat.zero_le _, Lib.hid (fun j h => absurd h (by omega)), 0, rfl⟩
    case round =>
      obtain ⟨k, rfl, hk, hprev, n, rfl⟩ := hrel
      by_cases hlt : k < xs.length
      · obtain ⟨b, off, rfl, hb, hc⟩ := hx.span (by omega)
        obtain ⟨b', off', rfl, hb', hc'⟩ := hy.span (by have := hL.out; omega)
        obtain ⟨c0, c1⟩ := hc k hlt
        have hlt2 : k < ys.length := by have := hL.out; omega
        obtain ⟨d0, d1⟩ := hc' k hlt2
        have hkk := hprev.out
        have HX : Hid (∀ p q, xs[k] = p → ys[k] = q → p = q → ∀ j (h : j < k + 1) (h1 : j < xs.length) (h2 : j < ys.length), xs[j] = ys[j]) := Lib.hid (by
          intro p q hp hq hpq j h h1 h2
          by_cases e : j = k
          · subst e; rw [hp, hq, hpq]
          · exact hkk j (by omega) h1 h2)
        have HN : Hid (∀ p q, xs[k] = p → ys[k] = q → ¬ p = q → (xs == ys) = false) := Lib.hid (by
          intro p q hp hq hpq
          rw [beq_eq_false_iff_ne]
          rintro rfl
          exact hpq (hp.symm.trans hq))
        clear hprev hkk hc hc' hx hy
        have HX2 := HX.out _ _ rfl rfl
        have HN2 := HN.out _ _ rfl rfl
        clear HX HN
        generalize xs[k] = p at *
        generalize ys[k] = q at *
        obtain ⟨p1, p2⟩ := p
        obtain ⟨q1, q2⟩ := q
        by_cases e : p1 = q1 ∧ p2 = q2
        · obtain ⟨rfl, rfl⟩ := e
          have HX3 := Lib.hid (HX2 rfl)
          clear HX2 HN2
          go_wp2
          go_quiet (fail)
          go_wp2
          go_roundw
          case rel => exact ⟨k + 1, by go_num, hlt, HX3, _, by first | exact rfl | exact World.drewN_drewN _ _ _⟩
          case measure => simp [intOf] <;> omega
        · have HN3 := Lib.hid (HN2 (by simpa using e))
          clear HX2 HN2
          by_cases e1 : p1 = q1
          · have f1 : ((p1 : Int) == (q1 : Int)) = true := beq_iff_eq.2 (by omega)
            have f2 : ((p2 : Int) == (q2 : Int)) = false := beq_eq_false_iff_ne.2 (by omega)
            go_wp2
            go_quiet (fail)
            go_wp2
            go_ret
            exact ⟨ret_bool HN3.out.symm, _, by first | exact rfl | exact World.drewN_drewN _ _ _⟩
          · have f1 : ((p1 : Int) == (q1 : Int)) = false := beq_eq_false_iff_ne.2 (by omega)
            go_wp2
            go_quiet (fail)
            go_wp2
            go_ret
            exact ⟨ret_bool HN3.out.symm, _, by first | exact rfl | exact World.drewN_drewN _ _ _⟩
      · have hfin : Hid ((xs == ys) = true) := Lib.hid (by
          rw [beq_iff_eq]
          exact List.ext_getElem hL.out (fun j h1 h2 => hprev.out j (by omega) h1 h2))
        clear hprev hx hy
        go_wp2
        go_ret
        exact ⟨ret_bool hfin.out.symm, _, rfl⟩
  · have hl' : ((xs.length : Int) != (ys.length : Int)) = true := by rw [bne_iff_ne]; omega
    have hfin : Hid ((xs == ys) = false) := Lib.hid (by rw [beq_eq_false_iff_ne]; rintro rfl; exact hl rfl)
    clear hx hy
    go_enter Try.func18, Try.ntmps18
    go_wp2
    go_ret
    exact ⟨ret_bool hfin.out.symm, 0, rfl⟩
end Go.Proofs.Ythfpiomooomhoaa
