/-
  The walks of layer 16: two lists of edits are the same. By an AI agent.
-/
import Derived.Test.YtpigimmgadcogaaPl
namespace Go.Proofs.Ytpigimmgadcogaa
open Go.RowKit

namespace E
/-- Edits in memory. -/
structure Rd (w : World) (B : Nat) (A : Option Addr) (xs : List (Es Int)) : Prop where
  row : Reads w B 3 A xs.length (xs.flatMap ec)
  ins : ∀ x ∈ xs, ∃ A' c, x.sl = .slice A' x.ed.ins.length c ∧ Reads w B 1 A' x.ed.ins.length (ns x.ed.ins) ∧ x.ed.ins.length ≤ 1000000
theorem Rd.below {w w' : World} {B B₁ : Nat} {A : Option Addr} {xs : List (Es Int)} (h : Rd w B A xs) (hb : Below B₁ w w') (hB : B ≤ B₁) : Rd w' B A xs :=
  ⟨h.row.below hb hB, fun x hx => let ⟨A', c, h1, h2, h3⟩ := h.ins x hx; ⟨A', c, h1, h2.below hb hB, h3⟩⟩
theorem Rd.more {w : World} {B B' : Nat} {A : Option Addr} {xs : List (Es Int)} (h : Rd w B A xs) (hB : B ≤ B') : Rd w B' A xs :=
  ⟨h.row.more hB, fun x hx => let ⟨A', c, h1, h2, h3⟩ := h.ins x hx; ⟨A', c, h1, h2.more hB, h3⟩⟩
theorem Rd.sl {w : World} {B : Nat} {A : Option Addr} {xs : List (Es Int)} (h : Rd w B A xs) : ∀ x ∈ xs, ∃ A' n c, x.sl = .slice A' n c :=
  fun x hx => let ⟨A', c, h1, _⟩ := h.ins x hx; ⟨A', _, c, h1⟩
/-- Edits of the call's own. -/
theorem Eds.rd {w : World} {TE base : Nat} {v : Value} {es : List (Es Int)} (h : Eds TE 3 1 cv base w v es) (hl : ∀ x ∈ es, x.ed.ins.length ≤ 1000000) : ∃ A c, v = .slice A es.length c ∧ Rd w w.heap.size A es := by
  obtain ⟨A, c, hv, hr⟩ := own_reads h.own
  refine ⟨A, c, hv, hr, fun x hx => ?_⟩
  obtain ⟨A', c', hv', hr'⟩ := own_reads (h.ins x hx)
  exact ⟨A', c', hv', by rw [flat_cv] at hr'; exact hr', hl x hx⟩
/-- A row of the call's own whose edits insert what lay there. -/
theorem Rd.of_own {w w' : World} {B base TE : Nat} {A0 : Option Addr} {v : Value} {xs : List (Es Int)} (h : Rd w B A0 xs) (hb : Below B w w') (hown : w'.ownsRow base TE 3 v xs.length (xs.flatMap ec)) (hB : B ≤ w'.heap.size) : ∃ A c, v = .slice A xs.length c ∧ Rd w' w'.heap.size A xs := by
  obtain ⟨A, c, hv, hr⟩ := own_reads hown
  exact ⟨A, c, hv, hr, fun x hx => let ⟨A', c', h1, h2, h3⟩ := h.ins x hx; ⟨A', c', h1, (h2.below hb (Nat.le_refl _)).more hB, h3⟩⟩
theorem eds_ne {xs ys : List (Es Int)} {k : Nat} (h1 : k < xs.length) (h2 : k < ys.length) (h : xs[k].ed ≠ ys[k].ed) : xs.map (·.ed) ≠ ys.map (·.ed) := fun e => h (by
  have := congrArg (fun l => l[k]?) e
  simpa [h1, h2] using this)
end E

set_option maxRecDepth 10000 in
set_option maxHeartbeats 8000000 in
theorem same_any (A1 A2 : Option Addr) (c1 c2 B : Nat) (xs ys : List (E.Es Int)) (w : World) (ha : E.Rd w B A1 xs) (hb : E.Rd w B A2 ys) (hna : xs.length ≤ 1000000) (hnb : ys.length ≤ 1000000) :
    Calls Try.prog 15 #[.slice A1 xs.length c1, .slice A2 ys.length c2] w fun e w' => e = .returned (.bool (decide (xs.map (·.ed) = ys.map (·.ed)))) ∧ ∃ n, w' = w.drewN n := by
  have HA := Lib.hid ha
  have HB := Lib.hid hb
  clear ha hb
  by_cases hl : xs.length = ys.length
  · have HL := Lib.hid hl
    have hl1 : ((xs.length : Int) != (ys.length : Int)) = false := by simp [hl]
    have hle : ys.length ≤ xs.length := by omega
    clear hl
    go_enter Try.func15, Try.ntmps15
    go_wp2
    go_loopw [5] (fun i wr => ∃ k : Nat, k ≤ xs.length ∧ i = .int .i64 k ∧ Hid (∀ j (h : j < k) (h1 : j < xs.length) (h2 : j < ys.length), xs[j].ed = ys[j].ed) ∧ ∃ n, wr = w.drewN n) (fun i _ => xs.length - (intOf i).toNat)
    case atStart => exact ⟨0, Nat.zero_le _, rfl, Lib.hid (fun j h => absurd h (by omega)), 0, rfl⟩
    case round =>
      obtain ⟨k, hk, rfl, hprev, n, rfl⟩ := hrel
      by_cases hlt : k < xs.length
      · have hlt2 : k < ys.length := by have := HL.out; omega
        obtain ⟨b1, o1, rfl, _, h1⟩ := E.edD HA.out.row (by omega)
        obtain ⟨b2, o2, rfl, _, h2⟩ := E.edD HB.out.row (by omega)
        obtain ⟨x0, x1, x2⟩ := h1 k hlt
        obtain ⟨y0, y1, y2⟩ := h2 k hlt2
        obtain ⟨A1', c1', hx, rx, lx⟩ := HA.out.ins xs[k] (List.getElem_mem hlt)
        obtain ⟨A2', c2', hy, ry, ly⟩ := HB.out.ins ys[k] (List.getElem_mem hlt2)
        have q1 : (0 : Int) ≤ (k : Int) := by omega
        have q2 : (k : Int) < (xs.length : Int) := by omega
        have q3 : (k : Int) < (ys.length : Int) := by omega
        have HNE := Lib.hid (E.eds_ne (xs := xs) (ys := ys) hlt hlt2)
        have HC : Hid (∀ m, Calls Try.prog 19 #[.slice A1' xs[k].ed.ins.length c1', .slice A2' ys[k].ed.ins.length c2'] (w.drewN (n + m)) fun e w' => e = .returned (.bool (decide (xs[k].ed.ins = ys[k].ed.ins))) ∧ ∃ m', w' = w.drewN (n + m')) :=
          Lib.hid (fun m => (sameints_any A1' A2' c1' c2' B _ _ _ (rx.drewN (n + m)) (ry.drewN (n + m)) lx ly).mono fun e w' ⟨h1, q, h2⟩ => ⟨h1, m + q, by rw [h2, World.drewN_drewN, Nat.add_assoc]⟩)
        clear h1 h2 rx ry lx ly
        generalize hxk : xs[k] = x at *
        generalize hyk : ys[k] = y at *
        obtain ⟨⟨xa, xd, xi⟩, xs'⟩ := x
        obtain ⟨⟨ya, yd, yi⟩, ys'⟩ := y
        dsimp only at *
        subst hx hy
        by_cases e1 : xa = ya
        · have p1 : (xa != ya) = false := by simp [e1]
          by_cases e2 : xd = yd
          · have p2 : (xd != yd) = false := by simp [e2]
            by_cases e3 : xi = yi
            · have p3 : decide (xi = yi) = true := decide_eq_true e3
              have hp2 : Hid (∀ j (h : j < k + 1) (h1 : j < xs.length) (h2 : j < ys.length), xs[j].ed = ys[j].ed) := Lib.hid (fun j hj g1 g2 => by
                by_cases e : j = k
                · subst e; rw [hxk, hyk]; simp [e1, e2, e3]
                · exact hprev.out j (by omega) g1 g2)
              have HC' := HC
              rw [p3] at HC'
              clear hprev HC HNE e1 e2 e3 hxk hyk p3
              go_wp2_with fail
              go_quiet ((go_at_call 19; exact HC'.out _))
              go_wp2
              go_roundw
              case rel => exact ⟨k + 1, hlt, by go_num, hp2, n + nq, by simp⟩
              case measure => simp [intOf] <;> omega
            · have p3 : decide (xi = yi) = false := decide_eq_false e3
              have hne : Hid (decide (xs.map (·.ed) = ys.map (·.ed)) = false) := Lib.hid (decide_eq_false (HNE.out (by simp [e3])))
              have HC' := HC
              rw [p3] at HC'
              clear hprev HC HNE e1 e2 e3 hxk hyk p3
              go_wp2_with fail
              go_quiet ((go_at_call 19; exact HC'.out _))
              go_wp2
              go_ret
              exact ⟨ret_bool hne.out.symm, n + nq, by simp⟩
          · have p2 : (xd != yd) = true := bne_iff_ne.2 e2
            have hne : Hid (decide (xs.map (·.ed) = ys.map (·.ed)) = false) := Lib.hid (decide_eq_false (HNE.out (by simp [e2])))
            clear hprev HC HNE e1 e2 hxk hyk
            go_wp2_with fail
            go_quiet (fail)
            go_wp2
            go_ret
            exact ⟨ret_bool hne.out.symm, n + nq, by simp⟩
        · have p1 : (xa != ya) = true := bne_iff_ne.2 e1
          have hne : Hid (decide (xs.map (·.ed) = ys.map (·.ed)) = false) := Lib.hid (decide_eq_false (HNE.out (by simp [e1])))
          clear hprev HC HNE e1 hxk hyk
          go_wp2_with fail
          go_quiet (fail)
          go_wp2
          go_ret
          exact ⟨ret_bool hne.out.symm, n + nq, by simp⟩
      · obtain rfl : k = xs.length := by omega
        have he : Hid (decide (xs.map (·.ed) = ys.map (·.ed)) = true) := Lib.hid (decide_eq_true (List.ext_getElem (by simp [HL.out]) (fun j g1 g2 => by simp only [List.length_map] at g1 g2; simpa using hprev.out j g1 g1 g2)))
        go_wp2
        go_ret
        exact ⟨ret_bool he.out.symm, n, rfl⟩
  · have hne : Hid (decide (xs.map (·.ed) = ys.map (·.ed)) = false) := Lib.hid (decide_eq_false (fun e => hl (by have := congrArg List.length e; simpa using this)))
    have hl1 : ((xs.length : Int) != (ys.length : Int)) = true := by rw [bne_iff_ne]; omega
    go_enter Try.func15, Try.ntmps15
    go_wp2
    go_ret
    exact ⟨ret_bool hne.out.symm, 0, rfl⟩
end Go.Proofs.Ytpigimmgadcogaa
