/-
  The walks of layer 17: fine; the distance of two rows. By an AI agent.
-/
import Derived.Test.YteakiielcmgkeaaLensG
import Derived.Test.YteakiielcmgkeaaSg
namespace Go.Proofs.Yteakiielcmgkeaa
open Go.RowKit Go.Deep

/-- Slices, as values. -/
def R.slv (x : Option Addr × Nat × Nat) : Value := .slice x.1 x.2.1 x.2.2
def R.fine (l : List Nat) : Bool := l.all fun n => decide (n ≤ 20)

theorem fine_any (A : Option Addr) (c B : Nat) (xs : List (Option Addr × Nat × Nat)) (w : World) (hr : Reads w B 1 A xs.length (xs.map R.slv)) (hm : xs.length ≤ 1000) (hl : ∀ x ∈ xs, x.2.1 ≤ maxLen) :
    Calls Try.prog 11 #[.slice A xs.length c] w fun e w' => e = .returned (.bool (R.fine (xs.map fun x => x.2.1))) ∧ w = w' := by
  have HR := Lib.hid hr
  have HM := Lib.hid hl
  clear hr hl
  go_enter Try.func11, Try.ntmps11
  go_wp2
  go_loop [7] (fun i => ∃ k : Nat, k ≤ xs.length ∧ i = .int .i64 k ∧ Hid (∀ j (h : j < xs.length), j < k → xs[j].2.1 ≤ 20)) (fun i => xs.length - (intOf i).toNat)
  case atStart => exact ⟨0, Nat.zero_le _, rfl, Lib.hid (fun j _ h => absurd h (by omega))⟩
  case round =>
    obtain ⟨k, hk, rfl, hprev⟩ := hrel
    by_cases hlt : k < xs.length
    · obtain ⟨b1, o1, rfl, _, h1⟩ := HR.out.flat (by omega) (by decide)
      have x0 := h1 k (R.slv xs[k]) (by simp [hlt])
      have hx := HM.out _ (List.getElem_mem hlt)
      have HK : Hid (xs[k] = xs[k]) := Lib.hid rfl
      clear h1
      by_cases h20 : 20 < xs[k].2.1
      · have hs : Hid (R.fine (xs.map fun x => x.2.1) = false) := Lib.hid (by
          unfold R.fine
          rw [List.all_eq_false]
          exact ⟨xs[k].2.1, List.mem_map.2 ⟨_, List.getElem_mem hlt, rfl⟩, by simp; omega⟩)
        clear HK
        generalize xs[k] = x at *
        obtain ⟨x1, x2, x3⟩ := x
        unfold R.slv at x0
        unfold maxLen at hx
        simp only at x0 h20 hx
        go_wp2
        go_ret
        exact ⟨ret_bool hs.out.symm, rfl⟩
      · have hp2 : Hid (∀ j (h : j < xs.length), j < k + 1 → xs[j].2.1 ≤ 20) := Lib.hid (fun j h hj => by
          by_cases e : j = k
          · subst e; omega
          · exact hprev.out j h (by omega))
        clear HK hprev
        generalize xs[k] = x at *
        obtain ⟨x1, x2, x3⟩ := x
        unfold R.slv at x0
        unfold maxLen at hx
        simp only at x0 h20 hx
        go_wp2
        go_round
        case rel => exact ⟨k + 1, hlt, by go_num, hp2⟩
        case measure => simp [intOf] <;> omega
    · obtain rfl : k = xs.length := by omega
      have hs : Hid (R.fine (xs.map fun x => x.2.1) = true) := Lib.hid (by
        unfold R.fine
        rw [List.all_eq_true]
        intro n hn
        obtain ⟨x, hx, rfl⟩ := List.mem_map.1 hn
        obtain ⟨j, hj, rfl⟩ := List.getElem_of_mem hx
        have := hprev.out j hj hj
        simpa using this)
      go_wp2
      go_ret
      exact ⟨ret_bool hs.out.symm, rfl⟩

theorem R.fine3 {x y z : Nat} (h : R.fine [x, y, z] = true) : x ≤ 20 ∧ y ≤ 20 ∧ z ≤ 20 := by simpa [R.fine] using h
theorem R.fine2 {x y : Nat} (h : R.fine [x, y] = true) : x ≤ 20 ∧ y ≤ 20 := by simpa [R.fine] using h
theorem R.fine1 {x : Nat} (h : R.fine [x] = true) : x ≤ 20 := by simpa [R.fine] using h

/-- 'fine' of three slices, in a block just laid. -/
theorem fine3_any (A1 A2 A3 : Option Addr) (c1 c2 c3 n1 n2 n3 : Nat) (w : World) (h1 : n1 ≤ maxLen) (h2 : n2 ≤ maxLen) (h3 : n3 ≤ maxLen) :
    Calls Try.prog 11 #[.slice (some ⟨w.heap.size, 0, none⟩) 3 3] (w.alloc (.cells #[.slice A1 n1 c1, .slice A2 n2 c2, .slice A3 n3 c3] 22)) fun e w' => e = .returned (.bool (R.fine [n1, n2, n3])) ∧ w.alloc (.cells #[.slice A1 n1 c1, .slice A2 n2 c2, .slice A3 n3 c3] 22) = w' := by
  have := fine_any (some ⟨w.heap.size, 0, none⟩) 3 _ [(A1, n1, c1), (A2, n2, c2), (A3, n3, c3)] _ (reads_new w [.slice A1 n1 c1, .slice A2 n2 c2, .slice A3 n3 c3] 22) (by simp) (by simp; exact ⟨h1, h2, h3⟩)
  exact this
theorem fine2_any (A1 A2 : Option Addr) (c1 c2 n1 n2 : Nat) (w : World) (h1 : n1 ≤ maxLen) (h2 : n2 ≤ maxLen) :
    Calls Try.prog 11 #[.slice (some ⟨w.heap.size, 0, none⟩) 2 2] (w.alloc (.cells #[.slice A1 n1 c1, .slice A2 n2 c2] 22)) fun e w' => e = .returned (.bool (R.fine [n1, n2])) ∧ w.alloc (.cells #[.slice A1 n1 c1, .slice A2 n2 c2] 22) = w' := by
  have := fine_any (some ⟨w.heap.size, 0, none⟩) 2 _ [(A1, n1, c1), (A2, n2, c2)] _ (reads_new w [.slice A1 n1 c1, .slice A2 n2 c2] 22) (by simp) (by simp; exact ⟨h1, h2⟩)
  exact this
theorem fine1_any (A1 : Option Addr) (c1 n1 : Nat) (w : World) (h1 : n1 ≤ maxLen) :
    Calls Try.prog 11 #[.slice (some ⟨w.heap.size, 0, none⟩) 1 1] (w.alloc (.cells #[.slice A1 n1 c1] 22)) fun e w' => e = .returned (.bool (R.fine [n1])) ∧ w.alloc (.cells #[.slice A1 n1 c1] 22) = w' := by
  have := fine_any (some ⟨w.heap.size, 0, none⟩) 1 _ [(A1, n1, c1)] _ (reads_new w [.slice A1 n1 c1] 22) (by simp) (by simp; exact h1)
  exact this
theorem dist_any (A1 A2 : Option Addr) (c1 c2 B : Nat) (a b : List R.G) (w : World) (ha : Reads w B 3 A1 a.length (R.gcs a)) (hb : Reads w B 3 A2 b.length (R.gcs b)) (hB : B ≤ w.heap.size) (hna : a.length ≤ 1000) (hnb : b.length ≤ 1000) :
    Calls Try.prog 20 #[.slice A1 a.length c1, .slice A2 b.length c2] w fun e w' => e = .returned (.int .i64 (E.dist a b)) ∧ Below w.heap.size w w' := by
  have LN := Lib.hid (lengthsG_any A1 A2 c1 c2 B a b w ha hb hB hna hnb)
  have hd := E.dist_int a b
  have h1 := E.lcs_le_left a b
  have HD := Lib.hid hd
  have H0 : Hid (E.L a b 0 0 = E.lcs a b) := Lib.hid rfl
  clear hd ha hb
  go_enter Try.func20, Try.ntmps20
  go_wp2_with fail
  refine LN.out.mono ?_
  rintro e w1 ⟨rfl, hT⟩
  have hR := E.tb_reads hT
  have c0 := hR.top 0 (Nat.zero_le _)
  have c1' := hR.at_ 0 (Nat.zero_le _) 0 (Nat.zero_le _)
  rw [H0.out] at c1'
  have hb := Lib.hid hT.below
  obtain ⟨Bn, hBn⟩ : ∃ Bn, w.heap.size + 1 + (a.length - 0) = Bn := ⟨_, rfl⟩
  rw [hBn] at c0 c1'
  clear LN hT hR hBn
  generalize E.lcs a b = v at *
  go_wp2
  go_ret
  exact ⟨ret_int HD.out.symm, hb.out⟩
end Go.Proofs.Yteakiielcmgkeaa
