/-
  The walks of layer 16: small, SameInts, Distance. By an AI agent.
-/
import Derived.Test.YtpigimmgadcogaaLensR
namespace Go.Proofs.Ytpigimmgadcogaa
open Go.RowKit Go.Deep

theorem getD_at {α : Type} {l : List α} {d : α} {k : Nat} (h : k < l.length) : l.getD k d = l[k] := by simp [List.getD, h]

theorem sameints_any (A1 A2 : Option Addr) (c1 c2 B : Nat) (a b : List Int) (w : World) (ha : Reads w B 1 A1 a.length (E.ns a)) (hb : Reads w B 1 A2 b.length (E.ns b)) (hna : a.length ≤ 1000000) (hnb : b.length ≤ 1000000) :
    Calls Try.prog 19 #[.slice A1 a.length c1, .slice A2 b.length c2] w fun e w' => e = .returned (.bool (decide (a = b))) ∧ ∃ n, w' = w.drewN n := by
  have HA := Lib.hid ha
  have HB := Lib.hid hb
  clear ha hb
  by_cases hl : a.length = b.length
  · have HL := Lib.hid hl
    have hl1 : ((a.length : Int) != (b.length : Int)) = false := by simp [hl]
    have hle : b.length ≤ a.length := by omega
    have hle2 : a.length ≤ b.length := by omega
    clear hl
    go_enter Try.func19, Try.ntmps19
    go_wp2
    go_loopw [5] (fun i wr => ∃ k : Nat, k ≤ a.length ∧ i = .int .i64 k ∧ Hid (∀ j (h : j < k) (h1 : j < a.length) (h2 : j < b.length), a[j] = b[j]) ∧ ∃ n, wr = w.drewN n) (fun i _ => a.length - (intOf i).toNat)
    case atStart => exact ⟨0, Nat.zero_le _, rfl, Lib.hid (fun j h => absurd h (by omega)), 0, rfl⟩
    case round =>
      obtain ⟨k, hk, rfl, hprev, n, rfl⟩ := hrel
      by_cases hlt : k < a.length
      · obtain ⟨b1, o1, rfl, _, h1⟩ := HA.out.num (by omega)
        obtain ⟨b2, o2, rfl, _, h2⟩ := HB.out.num (by omega)
        have x0 := h1 k hlt
        have y0 := h2 k (by omega)
        have q1 : (0 : Int) ≤ (k : Int) := by omega
        have q2 : (k : Int) < (a.length : Int) := by omega
        have q3 : (k : Int) < (b.length : Int) := by omega
        clear h1 h2
        by_cases hxy : a[k] = b[k]'(by omega)
        · have hp2 : Hid (∀ j (h : j < k + 1) (h1 : j < a.length) (h2 : j < b.length), a[j] = b[j]) := Lib.hid (fun j hj g1 g2 => by
            by_cases e : j = k
            · subst e; exact hxy
            · exact hprev.out j (by omega) g1 g2)
          rw [hxy] at x0
          clear hxy hprev
          generalize b[k]'(by omega) = y at *
          go_wp2_with fail
          go_quiet (fail)
          go_wp2
          go_roundw
          case rel => exact ⟨k + 1, hlt, by go_num, hp2, n + nq, rfl⟩
          case measure => simp [intOf] <;> omega
        · have hne : Hid (decide (a = b) = false) := Lib.hid (decide_eq_false (fun e => hxy (by subst e; rfl)))
          generalize b[k]'(by omega) = y at *
          generalize a[k] = x at *
          have hb1 : (x != y) = true := bne_iff_ne.2 hxy
          clear hxy
          go_wp2_with fail
          go_quiet (fail)
          go_wp2
          go_ret
          exact ⟨ret_bool hne.out.symm, n + nq, by simp⟩
      · obtain rfl : k = a.length := by omega
        have he : Hid (decide (a = b) = true) := Lib.hid (decide_eq_true (List.ext_getElem HL.out (fun j g1 g2 => hprev.out j g1 g1 g2)))
        go_wp2
        go_ret
        exact ⟨ret_bool he.out.symm, n, rfl⟩
  · have hne : Hid (decide (a = b) = false) := Lib.hid (decide_eq_false (fun e => hl (by rw [e])))
    have hl1 : ((a.length : Int) != (b.length : Int)) = true := by rw [bne_iff_ne]; omega
    go_enter Try.func19, Try.ntmps19
    go_wp2
    go_ret
    exact ⟨ret_bool hne.out.symm, 0, rfl⟩

/-- Slices, as values. -/
def E.slv (x : Option Addr × Nat × Nat) : Value := .slice x.1 x.2.1 x.2.2
def E.small (l : List Nat) : Bool := l.all fun n => decide (n ≤ 30)

theorem small_any (A : Option Addr) (c B : Nat) (xs : List (Option Addr × Nat × Nat)) (w : World) (hr : Reads w B 1 A xs.length (xs.map E.slv)) (hm : xs.length ≤ 1000) (hl : ∀ x ∈ xs, x.2.1 ≤ maxLen) :
    Calls Try.prog 11 #[.slice A xs.length c] w fun e w' => e = .returned (.bool (E.small (xs.map fun x => x.2.1))) ∧ w = w' := by
  have HR := Lib.hid hr
  have HM := Lib.hid hl
  clear hr hl
  go_enter Try.func11, Try.ntmps11
  go_wp2
  go_loop [7] (fun i => ∃ k : Nat, k ≤ xs.length ∧ i = .int .i64 k ∧ Hid (∀ j (h : j < xs.length), j < k → xs[j].2.1 ≤ 30)) (fun i => xs.length - (intOf i).toNat)
  case atStart => exact ⟨0, Nat.zero_le _, rfl, Lib.hid (fun j _ h => absurd h (by omega))⟩
  case round =>
    obtain ⟨k, hk, rfl, hprev⟩ := hrel
    by_cases hlt : k < xs.length
    · obtain ⟨b1, o1, rfl, _, h1⟩ := HR.out.flat (by omega) (by decide)
      have x0 := h1 k (E.slv xs[k]) (by simp [hlt])
      have hx := HM.out _ (List.getElem_mem hlt)
      have HK : Hid (xs[k] = xs[k]) := Lib.hid rfl
      clear h1
      by_cases h30 : 30 < xs[k].2.1
      · have hs : Hid (E.small (xs.map fun x => x.2.1) = false) := Lib.hid (by
          unfold E.small
          rw [List.all_eq_false]
          exact ⟨xs[k].2.1, List.mem_map.2 ⟨_, List.getElem_mem hlt, rfl⟩, by simp; omega⟩)
        clear HK
        generalize xs[k] = x at *
        obtain ⟨x1, x2, x3⟩ := x
        unfold E.slv at x0
        unfold maxLen at hx
        simp only at x0 h30 hx
        go_wp2
        go_ret
        exact ⟨ret_bool hs.out.symm, rfl⟩
      · have hp2 : Hid (∀ j (h : j < xs.length), j < k + 1 → xs[j].2.1 ≤ 30) := Lib.hid (fun j h hj => by
          by_cases e : j = k
          · subst e; omega
          · exact hprev.out j h (by omega))
        clear HK hprev
        generalize xs[k] = x at *
        obtain ⟨x1, x2, x3⟩ := x
        unfold E.slv at x0
        unfold maxLen at hx
        simp only at x0 h30 hx
        go_wp2
        go_round
        case rel => exact ⟨k + 1, hlt, by go_num, hp2⟩
        case measure => simp [intOf] <;> omega
    · obtain rfl : k = xs.length := by omega
      have hs : Hid (E.small (xs.map fun x => x.2.1) = true) := Lib.hid (by
        unfold E.small
        rw [List.all_eq_true]
        intro n hn
        obtain ⟨x, hx, rfl⟩ := List.mem_map.1 hn
        obtain ⟨j, hj, rfl⟩ := List.getElem_of_mem hx
        have := hprev.out j hj hj
        simpa using this)
      go_wp2
      go_ret
      exact ⟨ret_bool hs.out.symm, rfl⟩

theorem dist_any (A1 A2 : Option Addr) (c1 c2 B : Nat) (a b : List Int) (w : World) (ha : Reads w B 1 A1 a.length (E.ns a)) (hb : Reads w B 1 A2 b.length (E.ns b)) (hB : B ≤ w.heap.size) (hna : a.length ≤ 1000) (hnb : b.length ≤ 1000) :
    Calls Try.prog 13 #[.slice A1 a.length c1, .slice A2 b.length c2] w fun e w' => e = .returned (.int .i64 (E.dist a b)) ∧ Below w.heap.size w w' := by
  have LN := Lib.hid (lengths_any A1 A2 c1 c2 B a b w ha hb hB hna hnb)
  have hd := E.dist_int a b
  have h1 := E.lcs_le_left a b
  have HD := Lib.hid hd
  have H0 : Hid (E.L a b 0 0 = E.lcs a b) := Lib.hid rfl
  clear hd ha hb
  go_enter Try.func13, Try.ntmps13
  go_wp2_with fail
  refine LN.out.mono ?_
  rintro e w1 ⟨rfl, hT⟩
  have hR := E.tb_reads hT
  have c0 := hR.top 0 (Nat.zero_le _)
  have c1' := hR.at_ 0 (Nat.zero_le _) 0 (Nat.zero_le _)
  rw [H0.out] at c1'
  have hb := Lib.hid hT.below
  obtain ⟨Bn, hBn⟩ : ∃ Bn, w.heap.size + 1 + (a.length - 0) = Bn := ⟨_, rfl⟩
  rw [hBn] at c0 c1'
  clear LN hT hR hBn
  generalize E.lcs a b = v at *
  go_wp2
  go_ret
  exact ⟨ret_int HD.out.symm, hb.out⟩
end Go.Proofs.Ytpigimmgadcogaa
