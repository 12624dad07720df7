/-
  The walks of layer 22: covered. By an AI agent.
-/
import Derived.Test.YthfpiomooomhoaaPCover
import Derived.Test.YthfpiomooomhoaaAwake2
namespace Go.Proofs.Ythfpiomooomhoaa
open Go.RowKit

theorem infoInt : (Try.prog.info? 3).map (fun i => (i.zero, i.size, i.bytes)) = some (some (.int .i64 0), 1, 8) := by kernel_rfl

def ints (xs : List Nat) : List Value := xs.map fun (x : Nat) => Value.int .i64 (x : Int)

theorem madeInts (n : Nat) : (madeCells #[Value.int .i64 0] (n * 1)).toList = ints ((List.range n).map (S.cnt [])) := by
  rw [Nat.mul_one, toList_madeCells_one, S.cov_zero, ints, List.map_replicate]; rfl

set_option maxHeartbeats 1000000 in
theorem covered_any (n : Nat) (A : Option Addr) (c B : Nat) (xs : List (Nat × Nat)) (w : World) (hn : n ≤ 1000) (hx : Reads w B 2 A xs.length (xs.flatMap S.sc)) (hB : B ≤ w.heap.size) (hm : xs.length ≤ 1000) (ha : S.Asc n 0 xs) :
    Calls Try.prog 13 #[.int .i64 n, .slice A xs.length c] w fun e w' => ∃ A' c', e = .returned (.tuple #[.slice A' n c', .bool true]) ∧ Reads w' w'.heap.size 1 A' n (ints ((List.range n).map (S.cnt xs))) ∧ Below w.heap.size w w' := by
  obtain ⟨i0, hi0, hz0, hz1, hz2⟩ := info_parts infoInt
  have HA := Lib.hid ha
  clear ha
  go_enter Try.func13, Try.ntmps13
  go_wp2_with (refine wpList_make_full _ rfl (.tmp 11) (.tmp 11) 25 rfl w.heap.size 3 i0 (.int .i64 0) 1 Try.underlying25 hi0 hz0 hz1 .i64 .i64 _ _ n rfl rfl (by omega) (by omega) (by rw [hz2]; omega) (by unfold maxLen; omega) (Nat.le_refl _) ?_; intro w1 hown1 hg1)
  have hb1 : Below w.heap.size w w1 := (Below.refl _ _).grown hg1 (Nat.le_refl _) (fun k hk => by cases hk)
  rw [show (madeCells (Value.int .i64 0).cells (n * 1)).toList = ints ((List.range n).map (S.cnt [])) from madeInts n] at hown1
  clear hg1
  go_loopw [7, 15] (fun v i wr => ∃ k : Nat, k ≤ xs.length ∧ i = .int .i64 k ∧ v = .int .i64 (S.lastK xs k) ∧ wr.ownsRow w.heap.size 3 1 (.slice (some ⟨w.heap.size, 0, none⟩) n n) n (ints ((List.range n).map (S.cnt (xs.take k)))) ∧ Below w.heap.size w wr) (fun _ i _ => xs.length - (intOf i).toNat)
  case atStart => exact ⟨0, Nat.zero_le _, rfl, rfl, by simpa using hown1, hb1⟩
  case round =>
    clear hown1 hb1
    obtain ⟨k, hk, rfl, rfl, hown, hb⟩ := hrel
    by_cases hlt : k < xs.length
    · obtain ⟨b, off, rfl, hlo, hc⟩ := hx.span (by omega)
      obtain ⟨e0, e1⟩ := hc k hlt
      obtain ⟨h1, h2, h3, h4⟩ := HA.out.at0 k hlt
      have HN := Lib.hid h4
      have HC := Lib.hid (S.cov_end n xs k hlt)
      have HS := Lib.hid (S.cov_start n (xs.take k) xs[k].1)
      have c0 : wr.cell? ⟨b, off + k * 2, none⟩ = some (.int .i64 xs[k].1) := (hb.cell (by show b < _; omega)).trans e0
      have c1 : wr.cell? ⟨b, off + k * 2 + 1, none⟩ = some (.int .i64 xs[k].2) := (hb.cell (by show b < _; omega)).trans e1
      rw [← HS.out] at hown
      clear hc e0 e1 hx h4 HS
      obtain ⟨a, ha⟩ : ∃ a, xs[k].1 = a := ⟨_, rfl⟩
      obtain ⟨d, hd⟩ : ∃ d, xs[k].2 = d := ⟨_, rfl⟩
      rw [ha] at c0 h1 h2 hown
      rw [hd] at c1 h2 h3
      have HD := Lib.hid ha
      have HE := Lib.hid hd
      clear ha hd
      generalize S.lastK xs k = last at *
      have hsz : w.heap.size < wr.heap.size := by
        obtain ⟨g, cap, hv, _, hlt'⟩ := hown.form (by omega)
        injection hv with e1
        injection e1 with e1
        injection e1 with e1
        omega
      have t1 : decide ((a : Int) < (last : Int)) = false := decide_eq_false (by omega)
      have t2 : decide ((d : Int) ≤ (a : Int)) = false := decide_eq_false (by omega)
      have t3 : decide ((n : Int) < (d : Int)) = false := decide_eq_false (by omega)
      go_wp2
      have hown2 := hown.alloc (.cells #[.int .i64 a, .int .i64 d] 34)
      have hb2 := hb.alloc hb.size (.cells #[.int .i64 a, .int .i64 d] 34)
      have f0 : (wr.alloc (.cells #[.int .i64 a, .int .i64 d] 34)).cell? ⟨wr.heap.size, 0, none⟩ = some (.int .i64 a) := (Two.new wr _ _).cell0
      have f1 : (wr.alloc (.cells #[.int .i64 a, .int .i64 d] 34)).cell? ⟨wr.heap.size, 1, none⟩ = some (.int .i64 d) := (Two.new wr _ _).cell1
      generalize wr.alloc (.cells #[.int .i64 a, .int .i64 d] 34) = w2 at *
      generalize wr.heap.size = By at *
      go_loopw [10] (fun i wi => ∃ j : Nat, i = .int .i64 j ∧ a ≤ j ∧ j ≤ d ∧ wi.ownsRow w.heap.size 3 1 (.slice (some ⟨w.heap.size, 0, none⟩) n n) n (ints (S.cov n (xs.take k) a j)) ∧ Below w.heap.size w wi ∧ wi.cell? ⟨By, 0, none⟩ = some (.int .i64 a) ∧ wi.cell? ⟨By, 1, none⟩ = some (.int .i64 d)) (fun i _ => d - (intOf i).toNat)
      case atStart => exact ⟨a, rfl, Nat.le_refl _, by omega, hown2, hb2, f0, f1⟩
      case round =>
        obtain ⟨j, rfl, hj1, hj2, hown3, hb3, g0, g1⟩ := hrel
        clear hown2 hb2 f0 f1 hown hb c0 c1
        by_cases hjd : j < d
        · have hcell := hown3.cellAt j (by omega)
          have hfz := hown3.frozenAt j
          obtain ⟨z, hz⟩ : ∃ z, S.cnt (xs.take k) j = z := ⟨_, rfl⟩
          have hzl : z ≤ 1000 := by
            have : S.cnt (xs.take k) j ≤ (xs.take k).length := List.countP_le_length
            rw [List.length_take] at this
            omega
          have hcell2 : wr.cell? ⟨w.heap.size, j, none⟩ = some (.int .i64 z) := by
            rw [hcell, ints, List.getElem?_map, S.cov_get n (xs.take k) a j (by omega), hz]; rfl
          have hst : Hid ((wr.setCell ⟨w.heap.size, j, none⟩ (.int .i64 ((z : Int) + 1))).ownsRow w.heap.size 3 1 (.slice (some ⟨w.heap.size, 0, none⟩) n n) n (ints (S.cov n (xs.take k) a (j + 1)))) := Lib.hid (by
            have h := (hown3.stored j (.int .i64 ((z : Int) + 1))).1
            have e : (ints (S.cov n (xs.take k) a j)).set j (.int .i64 ((z : Int) + 1)) = ints (S.cov n (xs.take k) a (j + 1)) := by
              rw [← S.cov_step n (xs.take k) a j (by omega) hj1, hz, ints, ints, List.map_set]
              simp
            rwa [e] at h)
          have g0' : ∀ u, (wr.setCell ⟨w.heap.size, j, none⟩ u).cell? ⟨By, 0, none⟩ = some (.int .i64 a) := fun u => (World.cell?_setCell_other wr _ _ u (fun e => by injection e; omega)).trans g0
          have g1' : ∀ u, (wr.setCell ⟨w.heap.size, j, none⟩ u).cell? ⟨By, 1, none⟩ = some (.int .i64 d) := fun u => (World.cell?_setCell_other wr _ _ u (fun e => by injection e; omega)).trans g1
          clear hcell hown3 hz
          go_wp2
          go_roundw
          case rel => exact ⟨j + 1, by go_num, by omega, hjd, hst.out, hb3.setCell (Nat.le_refl _) _, g0' _, g1' _⟩
          case measure => simp [intOf] <;> omega
        · obtain rfl : j = d := by omega
          have hfin : Hid (wr.ownsRow w.heap.size 3 1 (.slice (some ⟨w.heap.size, 0, none⟩) n n) n (ints ((List.range n).map (S.cnt (xs.take (k + 1)))))) := Lib.hid (by
            rw [← HC.out, HD.out, HE.out]; exact hown3)
          clear hown3
          go_wp2
          go_roundw
          case rel => exact ⟨k + 1, hlt, by go_num, by rw [HN.out, HE.out], hfin.out, hb3⟩
          case measure => simp [intOf] <;> omega
    · obtain rfl : k = xs.length := by omega
      rw [List.take_length] at hown
      clear hx
      go_wp2
      go_ret2
      obtain ⟨A', c', hv, hr⟩ := own_any hown
      exact ⟨A', c', by rw [← hv]; rfl, hr.more (Nat.le_refl _), hb⟩
end Go.Proofs.Ythfpiomooomhoaa
