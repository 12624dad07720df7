/-
  The plain mathematics of layer 29: the reference goes through all sets of columns. By an AI agent.
-/
import Derived.Test.YtoemhphgnpedmaaAPlain4
namespace Go.Proofs.Ytoemhphgnpedmaa
namespace A
section
variable (n : Nat) (c : Nat → Nat → Int)

/-- The least of the values of the free columns below m; -1 if none is free. -/
def scanB (f : Nat → Int) (fre : Nat → Bool) : Nat → Int
  | 0 => -1
  | m + 1 => if fre m = true then (if scanB f fre m < 0 ∨ f m < scanB f fre m then f m else scanB f fre m) else scanB f fre m

theorem scanB_spec (f : Nat → Int) (fre : Nat → Bool) (hf : ∀ j, 0 ≤ f j) : ∀ m, (scanB f fre m < 0 → ∀ j, j < m → fre j = false) ∧ (0 ≤ scanB f fre m → (∃ j, j < m ∧ fre j = true ∧ f j = scanB f fre m)) ∧ (∀ j, j < m → fre j = true → scanB f fre m ≤ f j)
  | 0 => ⟨fun _ j h => by omega, fun h => by simp [scanB] at h, fun j h => by omega⟩
  | m + 1 => by
    obtain ⟨h1, h2, h3⟩ := scanB_spec f fre hf m
    by_cases hm : fre m = true
    · by_cases hc : scanB f fre m < 0 ∨ f m < scanB f fre m
      · have e : scanB f fre (m + 1) = f m := by simp only [scanB]; rw [if_pos hm, if_pos hc]
        rw [e]
        refine ⟨fun h => by have := hf m; omega, fun _ => ⟨m, by omega, hm, rfl⟩, fun j hj hfj => ?_⟩
        by_cases ej : j = m
        · subst ej; exact Int.le_refl _
        · rcases hc with hc | hc
          · have := h1 hc j (by omega); rw [hfj] at this; cases this
          · have := h3 j (by omega) hfj; omega
      · have e : scanB f fre (m + 1) = scanB f fre m := by simp only [scanB]; rw [if_pos hm, if_neg hc]
        rw [e]
        refine ⟨fun h => by omega, fun h => ?_, fun j hj hfj => ?_⟩
        · obtain ⟨j, a, b, d⟩ := h2 h; exact ⟨j, by omega, b, d⟩
        · by_cases ej : j = m
          · subst ej; omega
          · exact h3 j (by omega) hfj
    · have e : scanB f fre (m + 1) = scanB f fre m := by simp only [scanB]; rw [if_neg hm]
      rw [e]
      refine ⟨fun h j hj => ?_, fun h => ?_, fun j hj hfj => ?_⟩
      · by_cases ej : j = m
        · subst ej; simpa using hm
        · exact h1 h j (by omega)
      · obtain ⟨j, a, b, d⟩ := h2 h; exact ⟨j, by omega, b, d⟩
      · by_cases ej : j = m
        · subst ej; exact absurd hfj hm
        · exact h3 j (by omega) hfj

/-- The least total of the last d rows if the columns of a set are used. -/
def bst : Nat → Nat → Int
  | 0, _ => 0
  | d + 1, set =>
    if scanB (fun j => c (n - d) (j + 1) + bst d (set ||| 2 ^ j)) (fun j => !set.testBit j) n < 0 then 0
    else scanB (fun j => c (n - d) (j + 1) + bst d (set ||| 2 ^ j)) (fun j => !set.testBit j) n

/-- The columns of the first i rows, as a set. -/
def mask (N : Nat → Nat) : Nat → Nat
  | 0 => 0
  | i + 1 => mask N i ||| 2 ^ (N (i + 1) - 1)

theorem mask_bit (N : Nat → Nat) (j : Nat) : ∀ i, (mask N i).testBit j = true ↔ ∃ r, 1 ≤ r ∧ r ≤ i ∧ N r - 1 = j
  | 0 => by simp [mask]; intro r h1 h2; omega
  | i + 1 => by
    rw [mask, Nat.testBit_or, Bool.or_eq_true, mask_bit N j i, Nat.testBit_two_pow]
    constructor
    · rintro (⟨r, h1, h2, h3⟩ | h)
      · exact ⟨r, h1, by omega, h3⟩
      · exact ⟨i + 1, by omega, Nat.le_refl _, by simpa using h⟩
    · rintro ⟨r, h1, h2, h3⟩
      by_cases e : r = i + 1
      · subst e; right; simpa using h3
      · left; exact ⟨r, h1, by omega, h3⟩
theorem mask_congr {N N' : Nat → Nat} : ∀ {i : Nat}, (∀ r, 1 ≤ r → r ≤ i → N r = N' r) → mask N i = mask N' i
  | 0, _ => rfl
  | i + 1, h => by rw [mask, mask, mask_congr (fun r a b => h r a (by omega)), h (i + 1) (by omega) (Nat.le_refl _)]
theorem mask_lt {n : Nat} {N : Nat → Nat} : ∀ {i : Nat}, (∀ r, 1 ≤ r → r ≤ i → 1 ≤ N r ∧ N r ≤ n) → mask N i < 2 ^ n
  | 0, _ => Nat.pow_pos (by decide)
  | i + 1, h => Nat.or_lt_two_pow (mask_lt (fun r a b => h r a (by omega))) (Nat.pow_lt_pow_right (by decide) (by have := h (i + 1) (by omega) (Nat.le_refl _); omega))

def tail (N : Nat → Nat) (i : Nat) : Int := ((List.range' (i + 1) (n - i)).map fun r => c r (N r)).sum

variable {n c}

theorem tail_zero (N : Nat → Nat) : tail n c N 0 = tot n c N := rfl
theorem tail_end (N : Nat → Nat) : tail n c N n = 0 := by unfold tail; simp
theorem tail_succ (N : Nat → Nat) {i : Nat} (h : i < n) : tail n c N i = c (i + 1) (N (i + 1)) + tail n c N (i + 1) := by
  unfold tail
  rw [show n - i = (n - (i + 1)) + 1 by omega, List.range'_succ]
  simp
theorem tail_congr {N N' : Nat → Nat} {i : Nat} (h : ∀ r, i < r → r ≤ n → N r = N' r) : tail n c N i = tail n c N' i := by
  unfold tail
  refine sum_congr (fun r hr => ?_)
  rw [List.mem_range'_1] at hr
  rw [h r (by omega) (by omega)]
theorem tot_head {N N' : Nat → Nat} : ∀ {i : Nat}, i ≤ n → (∀ r, 1 ≤ r → r ≤ i → N r = N' r) → tot n c N - tail n c N i = tot n c N' - tail n c N' i
  | 0, _, _ => by rw [tail_zero, tail_zero]; omega
  | i + 1, hi, h => by
    have := tot_head (N := N) (N' := N') (i := i) (by omega) (fun r a b => h r a (by omega))
    rw [tail_succ N (by omega), tail_succ N' (by omega), h (i + 1) (by omega) (Nat.le_refl _)] at this
    omega

section
variable (hc : ∀ r j, 1 ≤ r → r ≤ n → 1 ≤ j → j ≤ n → 0 ≤ c r j)
include hc
omit hc in
theorem bst_nonneg : ∀ d set, 0 ≤ bst n c d set
  | 0, _ => by simp [bst]
  | d + 1, set => by simp only [bst]; split <;> omega

/-- The scan over the free columns, the costs taken as nothing beyond the matrix. -/
theorem bst_free {d set : Nat} (hd : d < n) : (∀ j, j < n → set.testBit j = false → bst n c (d + 1) set ≤ c (n - d) (j + 1) + bst n c d (set ||| 2 ^ j)) ∧
    ((∃ j, j < n ∧ set.testBit j = false) → ∃ j, j < n ∧ set.testBit j = false ∧ c (n - d) (j + 1) + bst n c d (set ||| 2 ^ j) = bst n c (d + 1) set) := by
  -- beyond the matrix nothing is known: scan a function that agrees below n and is not negative
  have key : ∀ m, m ≤ n → scanB (fun j => c (n - d) (j + 1) + bst n c d (set ||| 2 ^ j)) (fun j => !set.testBit j) m = scanB (fun j => if j < n then c (n - d) (j + 1) + bst n c d (set ||| 2 ^ j) else 0) (fun j => !set.testBit j) m := by
    intro m
    induction m with
    | zero => intro _; rfl
    | succ m ih =>
      intro hm
      simp only [scanB, ih (by omega), if_pos (show m < n by omega)]
  have hs := scanB_spec (fun j => if j < n then c (n - d) (j + 1) + bst n c d (set ||| 2 ^ j) else 0) (fun j => !set.testBit j) (fun j => by
    show 0 ≤ (if j < n then c (n - d) (j + 1) + bst n c d (set ||| 2 ^ j) else 0)
    split
    · have := hc (n - d) (j + 1) (by omega) (by omega) (by omega) (by omega)
      have := bst_nonneg (n := n) (c := c) d (set ||| 2 ^ j)
      omega
    · exact Int.le_refl _) n
  rw [← key n (Nat.le_refl _)] at hs
  obtain ⟨h1, h2, h3⟩ := hs
  constructor
  · intro j hj hb
    have := h3 j hj (by simp [hb])
    simp only [hj, if_true] at this
    simp only [bst]
    split
    · have := h1 (by assumption) j hj
      simp [hb] at this
    · exact this
  · rintro ⟨j, hj, hb⟩
    have hnn : ¬ scanB (fun j => c (n - d) (j + 1) + bst n c d (set ||| 2 ^ j)) (fun j => !set.testBit j) n < 0 := fun h => by
      have := h1 h j hj
      simp [hb] at this
    obtain ⟨k, k1, k2, k3⟩ := h2 (by omega)
    simp only [k1, if_true] at k3
    refine ⟨k, k1, by simpa using k2, ?_⟩
    conv => rhs; rw [bst]
    rw [if_neg hnn]
    exact k3

/-- No completion is cheaper. -/
theorem bst_le {N : Nat → Nat} (hN : Pf n N) : ∀ d, d ≤ n → bst n c d (mask N (n - d)) ≤ tail n c N (n - d)
  | 0, _ => by simp only [bst, Nat.sub_zero, tail_end]; exact Int.le_refl _
  | d + 1, hd => by
    have ih := bst_le hN d (by omega)
    have e : n - (d + 1) + 1 = n - d := by omega
    have hr := hN.rg (n - d) (by omega) (by omega)
    have hb : (mask N (n - (d + 1))).testBit (N (n - d) - 1) = false := by
      cases hx : (mask N (n - (d + 1))).testBit (N (n - d) - 1) with
      | false => rfl
      | true =>
        obtain ⟨r, a, b, e'⟩ := (mask_bit N _ _).1 hx
        have := hN.rg r a (by omega)
        have := hN.inj r (n - d) a (by omega) (by omega) (by omega) (by omega)
        omega
    have h := (bst_free hc (n := n) (d := d) (set := mask N (n - (d + 1))) (by omega)).1 (N (n - d) - 1) (by omega) hb
    rw [show N (n - d) - 1 + 1 = N (n - d) by omega] at h
    have hm : mask N (n - (d + 1)) ||| 2 ^ (N (n - d) - 1) = mask N (n - d) := by
      rw [← e]; rw [mask, e]
    rw [hm] at h
    have ht := tail_succ (n := n) (c := c) N (i := n - (d + 1)) (by omega)
    rw [e] at ht
    omega

/-- A completion costs no more. -/
theorem bst_has : ∀ d, d ≤ n → ∀ N, Pf n N → ∃ N', Pf n N' ∧ (∀ r, 1 ≤ r → r ≤ n - d → N' r = N r) ∧ tail n c N' (n - d) = bst n c d (mask N (n - d))
  | 0, _, N, hN => ⟨N, hN, fun _ _ _ => rfl, by simp only [bst, Nat.sub_zero, tail_end]⟩
  | d + 1, hd, N, hN => by
    have e : n - (d + 1) + 1 = n - d := by omega
    have hr := hN.rg (n - d) (by omega) (by omega)
    have hb : (mask N (n - (d + 1))).testBit (N (n - d) - 1) = false := by
      cases hx : (mask N (n - (d + 1))).testBit (N (n - d) - 1) with
      | false => rfl
      | true =>
        obtain ⟨r, a, b, e'⟩ := (mask_bit N _ _).1 hx
        have := hN.rg r a (by omega)
        have := hN.inj r (n - d) a (by omega) (by omega) (by omega) (by omega)
        omega
    obtain ⟨j, j1, j2, j3⟩ := (bst_free hc (n := n) (d := d) (set := mask N (n - (d + 1))) (by omega)).2 ⟨_, by omega, hb⟩
    -- the row that has the column j + 1
    obtain ⟨r0, a0, b0, e0⟩ := pf_onto hN (j := j + 1) (by omega) (by omega)
    have hr0 : n - (d + 1) < r0 := by
      by_cases h : r0 ≤ n - (d + 1)
      · have := (mask_bit N j (n - (d + 1))).2 ⟨r0, a0, h, by omega⟩
        rw [j2] at this; cases this
      · omega
    obtain ⟨N1, hN1, hag, h1⟩ : ∃ N1, Pf n N1 ∧ (∀ r, 1 ≤ r → r ≤ n - (d + 1) → N1 r = N r) ∧ N1 (n - d) = j + 1 := by
      by_cases er : r0 = n - d
      · exact ⟨N, hN, fun _ _ _ => rfl, by rw [← er]; exact e0⟩
      · exact ⟨swap N (n - d) r0, swap_pf hN ⟨by omega, by omega⟩ ⟨a0, b0⟩ (fun h => er h.symm), fun r a b => swap_ne N (by omega) (by omega), by rw [swap_i N (fun h => er h.symm)]; exact e0⟩
    obtain ⟨N2, hN2, hag2, h2⟩ := bst_has d (by omega) N1 hN1
    refine ⟨N2, hN2, fun r a b => by rw [hag2 r a (by omega), hag r a b], ?_⟩
    have hm : mask N1 (n - d) = mask N (n - (d + 1)) ||| 2 ^ j := by
      rw [← e, mask, e, h1, mask_congr hag, Nat.add_sub_cancel]
    have ht := tail_succ (n := n) (c := c) N2 (i := n - (d + 1)) (by omega)
    rw [e, hag2 (n - d) (by omega) (Nat.le_refl _), h1, h2, hm, j3] at ht
    exact ht

/-- What the reference picks. -/
def Picks (n : Nat) (c : Nat → Nat → Int) (R : Nat → Nat) (k : Nat) : Prop :=
  ∀ i, i < k → 1 ≤ R (i + 1) ∧ R (i + 1) ≤ n ∧ (mask R i).testBit (R (i + 1) - 1) = false ∧ c (i + 1) (R (i + 1)) + bst n c (n - (i + 1)) (mask R (i + 1)) = bst n c (n - i) (mask R i) ∧
    ∀ j, 1 ≤ j → j < R (i + 1) → (mask R i).testBit (j - 1) = false → c (i + 1) j + bst n c (n - (i + 1)) (mask R i ||| 2 ^ (j - 1)) ≠ bst n c (n - i) (mask R i)

omit hc in
theorem picks_pf {R : Nat → Nat} (h : Picks n c R n) : Pf n R := by
  have lt : ∀ r r', 1 ≤ r → r < r' → r' ≤ n → R r ≠ R r' := by
    intro r r' h1 h2 h3 e
    obtain ⟨a, b, d, _⟩ := h (r' - 1) (by omega)
    rw [show r' - 1 + 1 = r' by omega] at a b d
    have := (mask_bit R (R r' - 1) (r' - 1)).2 ⟨r, h1, by omega, by rw [e]⟩
    rw [d] at this; cases this
  refine ⟨fun r h1 h2 => ?_, fun r r' h1 h2 h3 h4 e => ?_⟩
  · have := h (r - 1) (by omega)
    rw [show r - 1 + 1 = r by omega] at this
    exact ⟨this.1, this.2.1⟩
  · by_cases a : r < r'
    · exact absurd e (lt r r' h1 a h4)
    · by_cases b : r' < r
      · exact absurd e.symm (lt r' r h3 b h2)
      · omega

/-- The first k picks belong to a permutation: so there is a next one. -/
theorem picks_next {R : Nat → Nat} {k : Nat} (h : Picks n c R k) (hk : k < n) : ∃ j, 1 ≤ j ∧ j ≤ n ∧ (mask R k).testBit (j - 1) = false ∧ c (k + 1) j + bst n c (n - (k + 1)) (mask R k ||| 2 ^ (j - 1)) = bst n c (n - k) (mask R k) := by
  -- a free column: k columns are used
  have hfree : ∃ j, j < n ∧ (mask R k).testBit j = false := by
    by_cases hx : ∃ j, j < n ∧ (mask R k).testBit j = false
    · exact hx
    · exfalso
      have h1 := nodup_len (l := nums n) (m := (nums k).map R) (nodup_nums n) (fun x hx' => by
        have hx2 := mem_nums.1 hx'
        have hb : (mask R k).testBit (x - 1) = true := by
          cases hb : (mask R k).testBit (x - 1) with
          | true => rfl
          | false => exact absurd ⟨x - 1, by omega, hb⟩ hx
        obtain ⟨r, a, b, e⟩ := (mask_bit R _ _).1 hb
        have := h (r - 1) (by omega)
        rw [show r - 1 + 1 = r by omega] at this
        exact List.mem_map.2 ⟨r, mem_nums.2 ⟨a, b⟩, by omega⟩)
      rw [List.length_map, len_nums, len_nums] at h1
      omega
  obtain ⟨j, j1, j2, j3⟩ := (bst_free hc (n := n) (d := n - (k + 1)) (set := mask R k) (by omega)).2 hfree
  rw [show n - (n - (k + 1)) = k + 1 by omega, show n - (k + 1) + 1 = n - k by omega] at j3
  exact ⟨j + 1, by omega, by omega, by simpa using j2, by simpa using j3⟩

omit hc in
theorem picks_tail {R : Nat → Nat} (h : Picks n c R n) : ∀ d, d ≤ n → tail n c R (n - d) = bst n c d (mask R (n - d))
  | 0, _ => by simp only [bst, Nat.sub_zero, tail_end]
  | d + 1, hd => by
    have ih := picks_tail h d (by omega)
    obtain ⟨_, _, _, a, _⟩ := h (n - (d + 1)) (by omega)
    rw [show n - (d + 1) + 1 = n - d by omega, show n - (n - d) = d by omega, show n - (n - (d + 1)) = d + 1 by omega] at a
    rw [tail_succ R (by omega), show n - (d + 1) + 1 = n - d by omega, ih, a]

theorem picks_best {R : Nat → Nat} (h : Picks n c R n) : Best n c R := by
  have hp := picks_pf h
  have h0 : ∀ N, Pf n N → tot n c R ≤ tot n c N := fun N hN => by
    have a := picks_tail h n (Nat.le_refl _)
    have b := bst_le hc hN n (Nat.le_refl _)
    simp only [Nat.sub_self, tail_zero, mask] at a b
    omega
  refine ⟨hp, h0, fun N hN ht r h1 h2 hag => ?_⟩
  obtain ⟨i, rfl⟩ : ∃ i, r = i + 1 := ⟨r - 1, by omega⟩
  have hag' : ∀ r, 1 ≤ r → r ≤ i → N r = R r := fun r a b => hag r a (by omega)
  have hm : mask N i = mask R i := mask_congr hag'
  have hd := tot_head (n := n) (c := c) (N := N) (N' := R) (i := i) (by omega) hag'
  have et := picks_tail h (n - i) (by omega)
  rw [show n - (n - i) = i by omega] at et
  have hr := hN.rg (i + 1) h1 h2
  have hle := bst_le hc hN (n - (i + 1)) (by omega)
  rw [show n - (n - (i + 1)) = i + 1 by omega] at hle
  have hs := tail_succ (n := n) (c := c) N (i := i) (by omega)
  have hm2 : mask N (i + 1) = mask R i ||| 2 ^ (N (i + 1) - 1) := by rw [mask, hm]
  rw [hm2] at hle
  have hb : (mask R i).testBit (N (i + 1) - 1) = false := by
    cases hx : (mask R i).testBit (N (i + 1) - 1) with
    | false => rfl
    | true =>
      rw [← hm] at hx
      obtain ⟨r, a, b, e'⟩ := (mask_bit N _ _).1 hx
      have := hN.rg r a (by omega)
      have := hN.inj r (i + 1) a (by omega) (by omega) (by omega) (by omega)
      omega
  have hf := (bst_free hc (n := n) (d := n - (i + 1)) (set := mask R i) (by omega)).1 (N (i + 1) - 1) (by omega) hb
  rw [show n - (n - (i + 1)) = i + 1 by omega, show n - (i + 1) + 1 = n - i by omega, show N (i + 1) - 1 + 1 = N (i + 1) by omega] at hf
  obtain ⟨_, _, _, _, a⟩ := h i (by omega)
  by_cases hlt : N (i + 1) < R (i + 1)
  · exact absurd (by omega) (a (N (i + 1)) hr.1 hlt hb)
  · omega
end
end
end A
end Go.Proofs.Ytoemhphgnpedmaa
