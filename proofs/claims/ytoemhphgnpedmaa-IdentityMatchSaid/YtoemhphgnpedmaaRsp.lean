/-
  The table of the reference's Solve in memory; its bits; bounds. By an AI agent.
-/
import Derived.Lib.SliceRun
import Derived.Laws.CopyOwn
import Derived.Test.YtoemhphgnpedmaaRch
import Derived.Test.YtoemhphgnpedmaaPlain5
namespace Go.Proofs.Ytoemhphgnpedmaa
open Go.RowKit

theorem bits_and64 : ∀ a < 128, ∀ b < 128, bits .and .i64 (a : Nat) (b : Nat) = ((a &&& b : Nat) : Int) := by decide +kernel
theorem bits_or64 : ∀ a < 128, ∀ b < 128, bits .or .i64 (a : Nat) (b : Nat) = ((a ||| b : Nat) : Int) := by decide +kernel
theorem and_pow64 : ∀ a < 128, ∀ j < 7, ((a &&& 2 ^ j : Nat) == 0) = !a.testBit j := by decide +kernel
theorem A.scan_hi {f : Nat → Int} {fre : Nat → Bool} {K : Int} (hK : 0 ≤ K) (hf : ∀ j, f j ≤ K) : ∀ m, A.scanB f fre m ≤ K
  | 0 => by simp only [A.scanB]; omega
  | m + 1 => by
    have := A.scan_hi hK hf (fre := fre) m
    have := hf m
    simp only [A.scanB]
    split
    · split <;> omega
    · omega
theorem A.bst_hi {n : Nat} {c : Nat → Nat → Int} (hc : ∀ r j, c r j ≤ 1000000) : ∀ d set, A.bst n c d set ≤ d * 1000000
  | 0, _ => by simp [A.bst]
  | d + 1, set => by
    simp only [A.bst]
    split
    · omega
    · refine A.scan_hi (by omega) (fun j => ?_) n
      have h1 := hc (n - d) (j + 1)
      have h2 := A.bst_hi (n := n) hc d (set ||| 2 ^ j)
      omega
structure C.Bt (w : World) (base gO n sz : Nat) (G : Nat → Nat) (L : Nat → Nat → Int) (lo : Nat) : Prop where
  out : ∃ vals, w.ownsRow base 32 1 (.slice (some ⟨gO, 0, none⟩) (n + 1) (n + 1)) (n + 1) vals ∧ ∀ r, lo ≤ r → r ≤ n → vals[r]? = some (.slice (some ⟨G r, 0, none⟩) sz sz)
  row : ∀ r, lo ≤ r → r ≤ n → w.ownsRow base 3 1 (.slice (some ⟨G r, 0, none⟩) sz sz) sz (C.ns ((List.range sz).map (L r)))
  ne : ∀ r, lo ≤ r → r ≤ n → G r ≠ gO
  inj : ∀ r r', lo ≤ r → r ≤ n → lo ≤ r' → r' ≤ n → G r = G r' → r = r'
section
variable {w w' : World} {base gO n sz lo : Nat} {G : Nat → Nat} {L : Nat → Nat → Int}
theorem C.Bt.lt (h : C.Bt w base gO n sz G L lo) : base ≤ gO ∧ gO < w.heap.size := by
  obtain ⟨vals, h1, _⟩ := h.out
  exact h1.lt gO rfl
theorem C.Bt.rlt (h : C.Bt w base gO n sz G L lo) {r : Nat} (h1 : lo ≤ r) (h2 : r ≤ n) : base ≤ G r ∧ G r < w.heap.size := (h.row r h1 h2).lt _ rfl
theorem C.Bt.at_out (h : C.Bt w base gO n sz G L lo) {r : Nat} (h1 : lo ≤ r) (h2 : r ≤ n) : w.cell? ⟨gO, r, none⟩ = some (.slice (some ⟨G r, 0, none⟩) sz sz) := by
  obtain ⟨vals, h3, h4⟩ := h.out
  rw [h3.cellAt r (by omega)]
  exact h4 r h1 h2
theorem C.Bt.cell_out (h : C.Bt w base gO n sz G L lo) {r : Nat} (h2 : r ≤ n) : ∃ v, w.cell? ⟨gO, r, none⟩ = some v := by
  obtain ⟨vals, h3, _⟩ := h.out
  have hl := h3.1
  exact ⟨_, (h3.cellAt r (by omega)).trans (List.getElem?_eq_getElem (by omega))⟩
theorem C.Bt.fz_out (h : C.Bt w base gO n sz G L lo) (j : Nat) : w.frozen? ⟨gO, j, none⟩ = false := by
  obtain ⟨vals, h3, _⟩ := h.out
  exact h3.frozenAt j
theorem C.Bt.at_row (h : C.Bt w base gO n sz G L lo) {r s : Nat} (h1 : lo ≤ r) (h2 : r ≤ n) (hs : s < sz) : w.cell? ⟨G r, s, none⟩ = some (.int .i64 (L r s)) := by
  rw [(h.row r h1 h2).cellAt s (by omega)]
  simp [C.ns, hs]
theorem C.Bt.fz_row (h : C.Bt w base gO n sz G L lo) {r : Nat} (h1 : lo ≤ r) (h2 : r ≤ n) (j : Nat) : w.frozen? ⟨G r, j, none⟩ = false := (h.row r h1 h2).frozenAt j
theorem C.Bt.under (h : C.Bt w base gO n sz G L lo) (hb : Below w.heap.size w w') : C.Bt w' base gO n sz G L lo := by
  obtain ⟨vals, h1, h2⟩ := h.out
  exact ⟨⟨vals, own_under h1 hb, h2⟩, fun r a b => own_under (h.row r a b) hb, h.ne, h.inj⟩
theorem C.Bt.drewN (h : C.Bt w base gO n sz G L lo) (m : Nat) : C.Bt (w.drewN m) base gO n sz G L lo := h.under (below_drewN (Below.refl _ _) m)
theorem C.Bt.set (h : C.Bt w base gO n sz G L lo) {r s : Nat} (h1 : lo ≤ r) (h2 : r ≤ n) (hs : s < sz) (x : Int) : C.Bt (w.setCell ⟨G r, s, none⟩ (.int .i64 x)) base gO n sz G (fun r' s' => if r' = r ∧ s' = s then x else L r' s') lo := by
  have hst := (h.row r h1 h2).stored s (.int .i64 x)
  obtain ⟨vals, h3, h4⟩ := h.out
  refine ⟨⟨vals, h3.kept hst.2 (.inr fun e => h.ne r h1 h2 (by injection e with e; exact e.symm)), h4⟩, fun r' a b => ?_, h.ne, h.inj⟩
  by_cases e : r' = r
  · subst e
    have h5 := hst.1
    rw [show (C.ns ((List.range sz).map (L r'))).set s (.int .i64 x) = C.ns ((List.range sz).map fun s' => if r' = r' ∧ s' = s then x else L r' s') from by
      refine List.ext_getElem (by simp [C.ns]) fun k k1 k2 => ?_
      simp only [List.getElem_set, C.ns, List.getElem_map, List.getElem_range]
      by_cases e : s = k
      · subst e; simp
      · rw [if_neg e, if_neg (fun h => e h.2.symm)]] at h5
    exact h5
  · have h5 := (h.row r' a b).kept hst.2 (.inr fun e2 => e (h.inj r' r a b h1 h2 (by injection e2)))
    rw [show (List.range sz).map (L r') = (List.range sz).map fun s' => if r' = r ∧ s' = s then x else L r' s' from List.map_congr_left fun k _ => by rw [if_neg (fun h => e h.1)]] at h5
    exact h5
theorem C.Bt.grow (h : C.Bt w base gO n sz G L (lo + 1)) (hlo : lo ≤ n) {base' : Nat} (hb' : base ≤ base') (hown : w'.ownsRow base' 3 1 (.slice (some ⟨w.heap.size, 0, none⟩) sz sz) sz (C.ns ((List.range sz).map fun _ => 0))) (hb : Below w.heap.size w w') :
    C.Bt (w'.setCell ⟨gO, lo, none⟩ (.slice (some ⟨w.heap.size, 0, none⟩) sz sz)) base gO n sz (A.upd G lo w.heap.size) (fun r s => if r = lo then 0 else L r s) lo := by
  have hu := h.under hb
  obtain ⟨vals, h1, h2⟩ := hu.out
  have hst := h1.stored lo (.slice (some ⟨w.heap.size, 0, none⟩) sz sz)
  have hvl : vals.length = n + 1 := by have := h1.1; omega
  have hg0 := h.lt.2
  refine ⟨⟨_, hst.1, fun r a b => ?_⟩, fun r a b => ?_, fun r a b => ?_, fun r r' a b a' b' e => ?_⟩
  · by_cases e : r = lo
    · subst e
      rw [A.upd_same, List.getElem?_set_self (by omega)]
    · rw [A.upd_ne _ _ e, List.getElem?_set_ne (Ne.symm e)]
      exact h2 r (by omega) b
  · by_cases e : r = lo
    · subst e
      rw [A.upd_same]
      have h5 := (own_mono hown hb').kept hst.2 (.inr fun e2 => by simp [Value.ownBlock] at e2; omega)
      simpa using h5
    · rw [A.upd_ne _ _ e]
      have h5 := (hu.row r (by omega) b).kept hst.2 (.inr fun e2 => h.ne r (by omega) b (by injection e2))
      rw [show (List.range sz).map (L r) = (List.range sz).map fun s => if r = lo then 0 else L r s from List.map_congr_left fun k _ => by rw [if_neg e]] at h5
      exact h5
  · by_cases e : r = lo
    · subst e; rw [A.upd_same]; omega
    · rw [A.upd_ne _ _ e]; exact h.ne r (by omega) b
  · by_cases e1 : r = lo
    · by_cases e2 : r' = lo
      · omega
      · rw [e1, A.upd_same, A.upd_ne _ _ e2] at e
        have := (h.rlt (r := r') (by omega) b').2
        omega
    · by_cases e2 : r' = lo
      · rw [e2, A.upd_same, A.upd_ne _ _ e1] at e
        have := (h.rlt (r := r) (by omega) b).2
        omega
      · rw [A.upd_ne _ _ e1, A.upd_ne _ _ e2] at e
        exact h.inj r r' (by omega) b (by omega) b' e
end
theorem C.zeros (sz : Nat) : (madeCells #[Value.int .i64 0] (sz * 1)).toList = C.ns ((List.range sz).map fun _ => (0 : Int)) := by
  rw [Nat.mul_one, toList_madeCells_one]
  refine List.ext_getElem (by simp [C.ns]) fun i h1 h2 => ?_
  simp [C.ns]
theorem A.bst_step {n : Nat} {c : Nat → Nat → Int} {i set : Nat} (hi : i < n) : A.bst n c (n - i) set = if A.scanB (fun j => c (i + 1) (j + 1) + A.bst n c (n - (i + 1)) (set ||| 2 ^ j)) (fun j => !set.testBit j) n < 0 then 0 else A.scanB (fun j => c (i + 1) (j + 1) + A.bst n c (n - (i + 1)) (set ||| 2 ^ j)) (fun j => !set.testBit j) n := by
  obtain ⟨d, hd⟩ : ∃ d, n - i = d + 1 := ⟨n - i - 1, by omega⟩
  rw [hd, show n - (i + 1) = d by omega]
  simp only [A.bst]
  rw [show n - d = i + 1 by omega]
theorem A.mask_upd {R : Nat → Nat} {k x : Nat} : ∀ {i : Nat}, i ≤ k → A.mask (A.upd R (k + 1) x) i = A.mask R i := fun {i} hi => A.mask_congr fun r h1 h2 => A.upd_ne _ _ (by omega)
theorem A.picks_step {n : Nat} {c : Nat → Nat → Int} {R : Nat → Nat} {k j : Nat} (h : A.Picks n c R k) (hj : j < n) (hf : (A.mask R k).testBit j = false) (he : c (k + 1) (j + 1) + A.bst n c (n - (k + 1)) (A.mask R k ||| 2 ^ j) = A.bst n c (n - k) (A.mask R k))
    (hp : ∀ j', j' < j → (A.mask R k).testBit j' = false → c (k + 1) (j' + 1) + A.bst n c (n - (k + 1)) (A.mask R k ||| 2 ^ j') ≠ A.bst n c (n - k) (A.mask R k)) : A.Picks n c (A.upd R (k + 1) (j + 1)) (k + 1) := by
  intro i hi
  by_cases e : i = k
  · subst e
    have m1 : A.mask (A.upd R (i + 1) (j + 1)) (i + 1) = A.mask R i ||| 2 ^ j := by
      show A.mask (A.upd R (i + 1) (j + 1)) i ||| 2 ^ (A.upd R (i + 1) (j + 1) (i + 1) - 1) = _
      rw [A.mask_upd (Nat.le_refl _), A.upd_same]; rfl
    rw [A.mask_upd (Nat.le_refl _), A.upd_same, m1]
    refine ⟨by omega, by omega, hf, he, fun j' h1 h2 h3 => ?_⟩
    have := hp (j' - 1) (by omega) h3
    rw [show j' - 1 + 1 = j' by omega] at this
    exact this
  · have h1 := h i (by omega)
    rw [A.mask_upd (by omega), A.mask_upd (show i + 1 ≤ k by omega), A.upd_ne _ _ (by omega)]
    exact h1
theorem A.mask_next {R : Nat → Nat} {k j : Nat} : A.mask (A.upd R (k + 1) (j + 1)) (k + 1) = A.mask R k ||| 2 ^ j := by
  show A.mask (A.upd R (k + 1) (j + 1)) k ||| 2 ^ (A.upd R (k + 1) (j + 1) (k + 1) - 1) = _
  rw [A.mask_upd (Nat.le_refl _), A.upd_same]; rfl
end Go.Proofs.Ytoemhphgnpedmaa
