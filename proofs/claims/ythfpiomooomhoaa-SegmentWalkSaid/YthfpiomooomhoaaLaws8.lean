/-
  The statements of layer 22: SegmentWalk. By an AI agent.
-/
import Derived.Test.YthfpiomooomhoaaLaws1
import Derived.Test.YthfpiomooomhoaaStep3
namespace Go.Proofs.Ythfpiomooomhoaa
open Go.RowKit

namespace S
def zs (l : List (Nat × Nat)) : List (Int × Int) := l.map fun x => ((x.1 : Int), (x.2 : Int))
theorem zs_cells (l : List (Nat × Nat)) : (zs l).flatMap zc = l.flatMap sc := by
  induction l with
  | nil => rfl
  | cons x l ih =>
    have : (zs (x :: l)).flatMap zc = zc ((x.1 : Int), (x.2 : Int)) ++ (zs l).flatMap zc := rfl
    rw [this, ih]
    rfl
theorem zs_len (l : List (Nat × Nat)) : (zs l).length = l.length := by simp [zs]
theorem zs_get (l : List (Nat × Nat)) {k : Nat} (h : k < l.length) : (zs l).getD k (0, 0) = ((l[k].1 : Int), (l[k].2 : Int)) := by simp [zs, List.getD, h]

theorem asc_lt {n : Nat} {l : List (Nat × Nat)} (h : Asc n 0 l) {j : Nat} : ∀ k (hj : j < k) (hk : k < l.length), (l[j]'(by omega)).1 < l[k].1
  | 0, hj, _ => by omega
  | k + 1, hj, hk => by
    have h1 := h.at (k + 1) hk
    have h0 := h.at k (by omega)
    rw [if_neg (by omega)] at h1
    have e : l.getD (k + 1 - 1) (0, 0) = l[k]'(by omega) := by simp [List.getD, show k < l.length by omega]
    rw [e] at h1
    have a0 : (l[k]'(by omega)).1 < (l[k]'(by omega)).2 := h0.2.1
    have a1 : (l[k]'(by omega)).2 ≤ l[k + 1].1 := h1.1
    have a2 : (l[j]'(by omega)).1 ≤ (l[k]'(by omega)).1 := by
      by_cases ej : j = k
      · subst ej; exact Nat.le_refl _
      · exact Nat.le_of_lt (asc_lt h k (by omega) (by omega))
    exact Nat.lt_of_le_of_lt a2 (Nat.lt_of_lt_of_le a0 a1)

/-- Where one stands before step k: forward, and back. -/
def at1 (l : List (Int × Int)) : Nat → Int
  | 0 => -1
  | k + 1 => (l.getD k (0, 0)).1
def at2 (l : List (Int × Int)) (n : Int) (k : Nat) : Int := if k = l.length then n else (l.getD k (0, 0)).1

theorem walk_next {n : Nat} {l : List (Nat × Nat)} (h : Asc n 0 l) {k : Nat} (hk : k < l.length) : next (zs l) (at1 (zs l) k) = ((zs l).getD k (0, 0), true) := by
  refine next_at (by rw [zs_len]; exact hk) (fun j hj => ?_) ?_
  · cases k with
    | zero => omega
    | succ k =>
      show _ ≤ ((zs l).getD k (0, 0)).1
      rw [zs_get l (by omega), zs_get l (by omega)]
      by_cases e : j = k
      · subst e; exact Int.le_refl _
      · have := asc_lt h k (show j < k by omega) (by omega)
        simp only; omega
  · cases k with
    | zero =>
      rw [zs_get l hk]
      show (-1 : Int) < _
      simp only; omega
    | succ k =>
      show ((zs l).getD k (0, 0)).1 < _
      rw [zs_get l hk, zs_get l (by omega)]
      have := asc_lt h (k + 1) (show k < k + 1 by omega) hk
      simp only; omega
theorem walk_next_end {n : Nat} {l : List (Nat × Nat)} (h : Asc n 0 l) : next (zs l) (at1 (zs l) l.length) = ((0, 0), false) := by
  refine next_none (fun j hj => ?_)
  rw [zs_len] at hj
  obtain ⟨m, hm⟩ : ∃ m, l.length = m + 1 := ⟨l.length - 1, by omega⟩
  rw [hm]
  show _ ≤ ((zs l).getD m (0, 0)).1
  rw [zs_get l hj, zs_get l (by omega)]
  by_cases e : j = m
  · subst e; exact Int.le_refl _
  · have := asc_lt h m (show j < m by omega) (by omega)
    simp only; omega

theorem prevN_at (l : List (Int × Int)) (a : Int) {k : Nat} (h : (l.getD k (0, 0)).1 < a) : ∀ n, k < n → (∀ j, k < j → j < n → a ≤ (l.getD j (0, 0)).1) → prevN l a n = (l.getD k (0, 0), true)
  | 0, hk, _ => by omega
  | n + 1, hk, hj => by
    by_cases e : k = n
    · subst e; rw [prevN, if_pos h]
    · have := hj n (by omega) (by omega)
      rw [prevN, if_neg (by omega)]
      exact prevN_at l a h n (by omega) (fun j h1 h2 => hj j h1 (by omega))
theorem prevN_none (l : List (Int × Int)) (a : Int) : ∀ n, (∀ j, j < n → a ≤ (l.getD j (0, 0)).1) → prevN l a n = ((0, 0), false)
  | 0, _ => rfl
  | n + 1, hj => by
    have := hj n (by omega)
    rw [prevN, if_neg (by omega)]
    exact prevN_none l a n (fun j h => hj j (by omega))

theorem walk_prev {n : Nat} {l : List (Nat × Nat)} (h : Asc n 0 l) {k : Nat} (hk : k < l.length) : prev (zs l) (at2 (zs l) n (k + 1)) = ((zs l).getD k (0, 0), true) := by
  have h0 := h.at k hk
  unfold prev at2
  refine prevN_at (zs l) _ ?_ _ (by rw [zs_len]; exact hk) (fun j h1 h2 => ?_)
  · rw [zs_get l hk]
    split
    · simp only; omega
    · rename_i hne
      rw [zs_len] at hne
      rw [zs_get l (by omega)]
      have := asc_lt h (k + 1) (show k < k + 1 by omega) (by omega)
      simp only; omega
  · rw [zs_len] at h2
    rw [if_neg (by rw [zs_len]; omega), zs_get l (by omega), zs_get l h2]
    by_cases e : j = k + 1
    · subst e; exact Int.le_refl _
    · have := asc_lt h j (show k + 1 < j by omega) h2
      simp only; omega
theorem walk_prev_end {n : Nat} {l : List (Nat × Nat)} (h : Asc n 0 l) : prev (zs l) (at2 (zs l) n 0) = ((0, 0), false) := by
  unfold prev at2
  refine prevN_none (zs l) _ _ (fun j hj => ?_)
  rw [zs_len] at hj
  rw [if_neg (by rw [zs_len]; omega), zs_get l (by omega), zs_get l hj]
  by_cases e : j = 0
  · subst e; exact Int.le_refl _
  · have := asc_lt h j (show 0 < j by omega) hj
    simp only; omega
end S

set_option maxRecDepth 10000 in
set_option maxHeartbeats 8000000 in
theorem walklaw_any (A : Option Addr) (c B : Nat) (gs : List S.G) (w : World) (hrow : Row w B A gs) (hB : B ≤ w.heap.size) :
    Calls Try.prog 10 #[.slice A gs.length c] w fun e w' => e = .returned (.bool true) ∧ Below w.heap.size w w' := by
  have HG := Lib.hid (great_any A c B gs w hrow.1 hrow.2.1 hrow.2.2)
  cases hgr : S.great gs
  · obtain ⟨hl, hg⟩ := S.great_false hgr
    rw [hgr] at HG
    clear hgr
    have hs : ∀ g ∈ gs, g.t.size ≤ maxLen := hrow.2.2
    have HW := words_any A c B gs w hrow.1 hB (by omega) hs
    have hwl : (S.words gs).length ≤ 200 := Nat.le_trans (List.length_filterMap_le _ _) (Nat.le_trans (S.spans_length _ _ _) (by omega))
    have hasc := S.words_asc gs
    rw [← S.zs_cells, ← S.zs_len] at HW
    have W1 : Hid (∀ k, k < (S.zs (S.words gs)).length → S.next (S.zs (S.words gs)) (S.at1 (S.zs (S.words gs)) k) = ((S.zs (S.words gs)).getD k (0, 0), true)) := Lib.hid (fun k hk => S.walk_next hasc (by rwa [S.zs_len] at hk))
    have W2 : Hid (S.next (S.zs (S.words gs)) (S.at1 (S.zs (S.words gs)) (S.zs (S.words gs)).length) = ((0, 0), false)) := Lib.hid (by rw [S.zs_len]; exact S.walk_next_end hasc)
    have W3 : Hid (∀ k, k < (S.zs (S.words gs)).length → S.prev (S.zs (S.words gs)) (S.at2 (S.zs (S.words gs)) gs.length (k + 1)) = ((S.zs (S.words gs)).getD k (0, 0), true)) := Lib.hid (fun k hk => S.walk_prev hasc (by rwa [S.zs_len] at hk))
    have W4 : Hid (S.prev (S.zs (S.words gs)) (S.at2 (S.zs (S.words gs)) gs.length 0) = ((0, 0), false)) := Lib.hid (S.walk_prev_end hasc)
    have hzl : (S.zs (S.words gs)).length ≤ 200 := by rw [S.zs_len]; exact hwl
    have HW' := Lib.hid HW
    clear HW hasc hwl hrow hg hs
    generalize S.zs (S.words gs) = zs at *
    go_enter Try.func10, Try.ntmps10
    go_wp2_with fail
    refine HG.out.mono ?_
    rintro e w0 ⟨rfl, rfl⟩
    go_wp2_with fail
    refine HW'.out.mono ?_
    rintro e w1 ⟨A1, c1, rfl, r1, b1⟩
    clear HW' HG
    have NX : Hid (∀ (at_ : Int) (w2 : World), Below w1.heap.size w1 w2 → Calls Try.prog 23 #[.slice A1 zs.length c1, .int .i64 at_] w2 fun e w' => e = .returned (.tuple #[S.zv (S.next zs at_).1, .bool (S.next zs at_).2]) ∧ Below w2.heap.size w2 w') := Lib.hid (fun at_ w2 h => next_any at_ A1 c1 w1.heap.size zs w2 (r1.below h (Nat.le_refl _)) h.size (by omega))
    have PV : Hid (∀ (at_ : Int) (w2 : World), Below w1.heap.size w1 w2 → Calls Try.prog 25 #[.slice A1 zs.length c1, .int .i64 at_] w2 fun e w' => e = .returned (.tuple #[S.zv (S.prev zs at_).1, .bool (S.prev zs at_).2]) ∧ Below w2.heap.size w2 w') := Lib.hid (fun at_ w2 h => prev_any at_ A1 c1 w1.heap.size zs w2 (r1.below h (Nat.le_refl _)) h.size (by omega))
    have R1 := Lib.hid r1
    clear r1
    go_wp2_with fail
    go_loopw [4, 23] (fun a i wr => ∃ k : Nat, k ≤ zs.length ∧ i = .int .i64 k ∧ a = .int .i64 (S.at1 zs k) ∧ Below w1.heap.size w1 wr) (fun _ i _ => zs.length - (intOf i).toNat)
    case atStart => exact ⟨0, Nat.zero_le _, rfl, rfl, Below.refl _ _⟩
    case round =>
      obtain ⟨k, hk, rfl, rfl, hb⟩ := hrel
      by_cases hlt : k < zs.length
      · obtain ⟨b, off, rfl, hlo, hc⟩ := (R1.out.below hb (Nat.le_refl _)).zspan (by omega)
        obtain ⟨c0, c1'⟩ := hc k hlt
        have E1 := W1.out k hlt
        have e2 : S.at1 zs (k + 1) = (zs.getD k (0, 0)).1 := rfl
        have H2 := Lib.hid e2
        clear e2 hc
        have hsz := hb.size
        have bN : Below w1.heap.size w1 (wr.alloc (.cells #[.int .i64 (zs.getD k (0, 0)).1, .int .i64 (zs.getD k (0, 0)).2] 34)) := hb.alloc hb.size _
        have N1 := NX.out (S.at1 zs k) _ bN
        rw [E1] at N1
        have tw := Two.new wr (.int .i64 (zs.getD k (0, 0)).1) (.int .i64 (zs.getD k (0, 0)).2)
        simp only [S.zv] at N1
        generalize zs.getD k (0, 0) = g at *
        clear E1
        have NN := Lib.hid N1
        have BN := Lib.hid bN
        have TW := Lib.hid tw
        clear N1 bN tw
        go_wp2_with fail
        refine NN.out.mono ?_
        clear NN
        rintro e w2 ⟨rfl, b2⟩
        have tw2 := TW.out.below b2
        have hb2 : Below w1.heap.size w1 w2 := BN.out.trans (b2.mono BN.out.size)
        have t0 := (tw2.alloc (.cells #[.int .i64 g.1, .int .i64 g.2] 34)).cell0
        have t1 := (tw2.alloc (.cells #[.int .i64 g.1, .int .i64 g.2] 34)).cell1
        have hlt2 := tw2.lt
        have hb3 := hb2.alloc hb2.size (.cells #[.int .i64 g.1, .int .i64 g.2] 34)
        clear b2 TW BN tw2 hb2 hb c0 c1'
        go_wp2
        go_roundw
        case rel => exact ⟨k + 1, hlt, by go_num, by rw [H2.out], hb3⟩
        case measure => simp [intOf] <;> omega
      · obtain rfl : k = zs.length := by omega
        have N1 := NX.out (S.at1 zs zs.length) _ hb
        rw [W2.out] at N1
        simp only [S.zv] at N1
        have NN := Lib.hid N1
        clear N1 W1 W2
        go_wp2_with fail
        refine NN.out.mono ?_
        clear NN
        rintro e w2 ⟨rfl, b2⟩
        have hb2 : Below w1.heap.size w1 w2 := hb.trans (b2.mono hb.size)
        have hb3 := hb2.alloc hb2.size (.cells #[.int .i64 0, .int .i64 0] 34)
        clear b2 hb2 hb
        go_wp2_with fail
        go_loopw [4, 11] (fun a i wr => ∃ k : Nat, k ≤ zs.length ∧ i = S.iv k ∧ a = .int .i64 (S.at2 zs gs.length k) ∧ Below w1.heap.size w1 wr) (fun _ i _ => (intOf i + 1).toNat)
        case atStart => exact ⟨zs.length, Nat.le_refl _, S.iv_eq _, by simp [S.at2], hb3⟩
        case round =>
          obtain ⟨k, hk, rfl, rfl, hb⟩ := hrel
          clear hb3
          cases k with
          | succ j =>
            obtain ⟨b, off, rfl, hlo, hc⟩ := (R1.out.below hb (Nat.le_refl _)).zspan (by omega)
            obtain ⟨c0, c1'⟩ := hc j (by omega)
            have E1 := W3.out j (by omega)
            have e2 : S.at2 zs gs.length j = (zs.getD j (0, 0)).1 := by unfold S.at2; rw [if_neg (by omega)]
            have H2 := Lib.hid e2
            clear e2 hc
            have hiv : S.iv (j + 1) = .int .i64 j := rfl
            rw [hiv]
            clear hiv
            have hsz := hb.size
            have N1 := PV.out (S.at2 zs gs.length (j + 1)) _ hb
            rw [E1] at N1
            simp only [S.zv] at N1
            generalize S.at2 zs gs.length (j + 1) = av at *
            generalize zs.getD j (0, 0) = g at *
            clear E1
            have NN := Lib.hid N1
            clear N1
            go_wp2_with fail
            refine NN.out.mono ?_
            clear NN
            rintro e w2 ⟨rfl, b2⟩
            have hb2 : Below w1.heap.size w1 w2 := hb.trans (b2.mono hb.size)
            have hb3 := hb2.alloc hb2.size (.cells #[.int .i64 g.1, .int .i64 g.2] 34)
            have hbl : b < wr.heap.size := by omega
            have hbl2 : b < w2.heap.size := by have := b2.size; omega
            have d0 := (b2.cell (p := ⟨b, off + j * 2, none⟩) hbl).trans c0
            have d1 := (b2.cell (p := ⟨b, off + j * 2 + 1, none⟩) hbl).trans c1'
            have q1 : (0 : Int) ≤ (j : Int) := by omega
            have q2 : (j : Int) < (zs.length : Int) := by omega
            have t0 := (Two.new w2 (.int .i64 g.1) (.int .i64 g.2)).cell0
            have t1 := (Two.new w2 (.int .i64 g.1) (.int .i64 g.2)).cell1
            have d2 : (w2.alloc (.cells #[.int .i64 g.1, .int .i64 g.2] 34)).cell? ⟨b, off + j * 2, none⟩ = some (.int .i64 g.1) := (World.cell?_alloc_lt w2 _ _ (by exact hbl2)).trans d0
            have d3 : (w2.alloc (.cells #[.int .i64 g.1, .int .i64 g.2] 34)).cell? ⟨b, off + j * 2 + 1, none⟩ = some (.int .i64 g.2) := (World.cell?_alloc_lt w2 _ _ (by exact hbl2)).trans d1
            clear b2 hb2 hb c0 c1' d0 d1
            go_wp2_with fail
            go_quiet (fail)
            go_wp2
            go_roundw
            case rel => exact ⟨j, by omega, S.iv_eq j, by rw [H2.out], below_drewN hb3 _⟩
            case measure => simp [intOf] <;> omega
          | zero =>
            have hiv : S.iv 0 = .int .i64 (-1) := rfl
            rw [hiv]
            clear hiv
            have N1 := PV.out (S.at2 zs gs.length 0) _ hb
            rw [W4.out] at N1
            simp only [S.zv] at N1
            generalize S.at2 zs gs.length 0 = av at *
            have NN := Lib.hid N1
            clear N1
            go_wp2_with fail
            refine NN.out.mono ?_
            clear NN
            rintro e w2 ⟨rfl, b2⟩
            have hb2 : Below w1.heap.size w1 w2 := hb.trans (b2.mono hb.size)
            have hb3 := hb2.alloc hb2.size (.cells #[.int .i64 0, .int .i64 0] 34)
            clear b2 hb2 hb
            go_wp2_with fail
            refine (awake_any _).mono ?_
            rintro e w5 ⟨rfl, b5⟩
            go_wp2_with fail
            go_ret
            exact ⟨rfl, (b1.trans ((hb3.trans (b5.mono hb3.size)).mono b1.size))⟩
  · rw [hgr] at HG
    clear hgr hrow
    go_enter Try.func10, Try.ntmps10
    go_wp2_with fail
    refine HG.out.mono ?_
    rintro e w0 ⟨rfl, rfl⟩
    go_wp2_with fail
    refine (awake_any _).mono ?_
    rintro e w5 ⟨rfl, b5⟩
    go_wp2_with fail
    go_ret
    exact ⟨rfl, b5⟩
end Go.Proofs.Ythfpiomooomhoaa
