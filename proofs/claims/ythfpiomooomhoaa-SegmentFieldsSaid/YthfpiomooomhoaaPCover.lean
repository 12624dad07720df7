/-
  The plain mathematics of layer 22: what the words and the fields cover. By an AI agent.
-/
import Derived.Test.YthfpiomooomhoaaPSpans
namespace Go.Proofs.Ythfpiomooomhoaa
namespace S

/-- The spans kept: those that do not begin with p. -/
def kept {n : Nat} (p : Nat → Bool) (xs : List (Sp n)) : List (Nat × Nat) := xs.filterMap fun x => if p x.1.1 then none else some x.1

theorem kept_cons_drop {n : Nat} {p : Nat → Bool} {x : Sp n} {xs : List (Sp n)} (h : p x.1.1 = true) : kept p (x :: xs) = kept p xs := by simp [kept, h]
theorem kept_cons_take {n : Nat} {p : Nat → Bool} {x : Sp n} {xs : List (Sp n)} (h : p x.1.1 = false) : kept p (x :: xs) = x.1 :: kept p xs := by simp [kept, h]

theorem words_kept (gs : List G) : words gs = kept (fun i => kd gs i == 0) (spans gs.length (tgW gs) 0) := by
  simp [words, kept]
theorem fields_kept (gs : List G) : fields gs = kept (gap gs) (spans gs.length (tgF gs) 0) := rfl

/-- Spans that are not empty, ascending, within the row. -/
def Asc (n : Nat) : Nat → List (Nat × Nat) → Prop
  | _, [] => True
  | last, x :: xs => last ≤ x.1 ∧ x.1 < x.2 ∧ x.2 ≤ n ∧ Asc n x.2 xs

theorem Asc.le {n : Nat} {a b : Nat} (h : a ≤ b) : ∀ {xs : List (Nat × Nat)}, Asc n b xs → Asc n a xs
  | [], _ => trivial
  | _ :: _, ⟨h1, h2⟩ => ⟨Nat.le_trans h h1, h2⟩

theorem asc_kept (n : Nat) (tg p : Nat → Bool) (k : Nat) : Asc n k (kept p (spans n tg k)) := by
  by_cases h : k < n
  · rw [spans_step h]
    have h1 := runEnd_ge n tg (k + 1)
    have h2 := asc_kept n tg p (runEnd n tg (k + 1))
    cases hp : p k
    · rw [kept_cons_take (by simpa using hp)]
      exact ⟨Nat.le_refl _, h1, runEnd_le h, h2⟩
    · rw [kept_cons_drop (by simpa using hp)]
      exact h2.le (by omega)
  · rw [spans_out h]; trivial
termination_by n - k

/-- How many spans contain glyph i. -/
def cnt (xs : List (Nat × Nat)) (i : Nat) : Nat := xs.countP fun x => decide (x.1 ≤ i) && decide (i < x.2)

theorem cnt_cons (x : Nat × Nat) (xs : List (Nat × Nat)) (i : Nat) : cnt (x :: xs) i = cnt xs i + if x.1 ≤ i ∧ i < x.2 then 1 else 0 := by
  simp [cnt, List.countP_cons, Bool.and_eq_true]

theorem run_p {n : Nat} {tg p : Nat → Bool} (hp : ∀ j, tg j = true → p j = p (j - 1)) {k : Nat} : ∀ j, k ≤ j → j < runEnd n tg (k + 1) → p j = p k := by
  intro j h1 h2
  induction j with
  | zero => rw [show k = 0 by omega]
  | succ j ih =>
    by_cases e : k = j + 1
    · rw [e]
    · rw [hp (j + 1) (runEnd_all n tg (k + 1) (j + 1) (by omega) h2), Nat.add_sub_cancel]
      exact ih (by omega) (by omega)

theorem cnt_low {n : Nat} : ∀ {xs : List (Nat × Nat)} {k i : Nat}, Asc n k xs → i < k → cnt xs i = 0
  | [], _, _, _, _ => rfl
  | x :: xs, k, i, ⟨h1, h2, h3, h4⟩, hi => by
    rw [cnt_cons, cnt_low h4 (by omega)]
    have : ¬ (x.1 ≤ i ∧ i < x.2) := by omega
    simp [this]

theorem cnt_kept (n : Nat) (tg p : Nat → Bool) (hp : ∀ j, tg j = true → p j = p (j - 1)) (k i : Nat) (hk : k ≤ i) (hi : i < n) : cnt (kept p (spans n tg k)) i = if p i then 0 else 1 := by
  have h : k < n := by omega
  rw [spans_step h]
  have h1 := runEnd_ge n tg (k + 1)
  have h2 := asc_kept n tg p (runEnd n tg (k + 1))
  by_cases hin : i < runEnd n tg (k + 1)
  · have hpk := run_p hp i hk hin
    cases hpp : p k
    · rw [kept_cons_take (by simpa using hpp), cnt_cons, cnt_low h2 hin]
      simp [hk, hin, hpk, hpp]
    · rw [kept_cons_drop (by simpa using hpp), cnt_low h2 hin]
      simp [hpk, hpp]
  · have ih := cnt_kept n tg p hp (runEnd n tg (k + 1)) i (by omega) hi
    cases hpp : p k
    · rw [kept_cons_take (by simpa using hpp), cnt_cons, ih]
      simp [hin]
    · rw [kept_cons_drop (by simpa using hpp), ih]
termination_by n - k

/-- What is true of each span kept. -/
theorem mem_kept (n : Nat) (tg p : Nat → Bool) (k : Nat) (hk : k = 0 ∨ k = n ∨ tg k = false) (hkn : k ≤ n) (x : Nat × Nat) (hx : x ∈ kept p (spans n tg k)) :
    p x.1 = false ∧ (x.1 = 0 ∨ tg x.1 = false) ∧ x.1 < x.2 ∧ x.2 ≤ n ∧ (∀ j, x.1 < j → j < x.2 → tg j = true) ∧ (x.2 = n ∨ tg x.2 = false) := by
  by_cases h : k < n
  · rw [spans_step h] at hx
    have h1 := runEnd_ge n tg (k + 1)
    have he := runEnd_end (tg := tg) (Nat.succ_le_of_lt h)
    have hle := runEnd_le (tg := tg) (Nat.succ_le_of_lt h)
    have ih := mem_kept n tg p (runEnd n tg (k + 1)) (by rcases he with h | h; exact .inr (.inl h); exact .inr (.inr h)) hle x
    cases hpp : p k
    · rw [kept_cons_take (by simpa using hpp)] at hx
      rcases List.mem_cons.1 hx with rfl | hx
      · refine ⟨hpp, ?_, h1, hle, fun j hj hj2 => runEnd_all n tg (k + 1) j hj hj2, he⟩
        rcases hk with h | h | h
        · exact .inl h
        · omega
        · exact .inr h
      · exact ih hx
    · rw [kept_cons_drop (by simpa using hpp)] at hx
      exact ih hx
  · rw [spans_out h] at hx
    simp [kept] at hx
termination_by n - k

theorem words_asc (gs : List G) : Asc gs.length 0 (words gs) := by rw [words_kept]; exact asc_kept _ _ _ _
theorem fields_asc (gs : List G) : Asc gs.length 0 (fields gs) := by rw [fields_kept]; exact asc_kept _ _ _ _
theorem words_cnt (gs : List G) (i : Nat) (hi : i < gs.length) : cnt (words gs) i = if kd gs i = 0 then 0 else 1 := by
  rw [words_kept, cnt_kept _ _ _ (fun j hj => by simp only [tgW, beq_iff_eq] at hj; rw [hj]) 0 i (Nat.zero_le _) hi]
  simp
theorem fields_cnt (gs : List G) (i : Nat) (hi : i < gs.length) : cnt (fields gs) i = if gap gs i then 0 else 1 := by
  rw [fields_kept, cnt_kept _ _ _ (fun j hj => by simpa [tgF] using hj) 0 i (Nat.zero_le _) hi]

/-- Behind which span k begins. -/
def lastK (xs : List (Nat × Nat)) : Nat → Nat
  | 0 => 0
  | k + 1 => (xs.getD k (0, 0)).2

theorem Asc.at {n : Nat} : ∀ {xs : List (Nat × Nat)} {a : Nat}, Asc n a xs → ∀ (k : Nat) (h : k < xs.length), (if k = 0 then a else (xs.getD (k - 1) (0, 0)).2) ≤ xs[k].1 ∧ xs[k].1 < xs[k].2 ∧ xs[k].2 ≤ n
  | x :: xs, a, ⟨h1, h2, h3, h4⟩, 0, _ => ⟨by simpa using h1, h2, h3⟩
  | x :: xs, a, ⟨h1, h2, h3, h4⟩, k + 1, h => by
    have ih := Asc.at h4 k (by simpa using h)
    cases k with
    | zero => simpa using ih
    | succ k => simpa using ih

theorem Asc.at0 {n : Nat} {xs : List (Nat × Nat)} (h : Asc n 0 xs) (k : Nat) (hk : k < xs.length) : lastK xs k ≤ xs[k].1 ∧ xs[k].1 < xs[k].2 ∧ xs[k].2 ≤ n ∧ lastK xs (k + 1) = xs[k].2 := by
  obtain ⟨h1, h2, h3⟩ := h.at k hk
  refine ⟨?_, h2, h3, by simp [lastK, List.getD, hk]⟩
  cases k with
  | zero => exact Nat.zero_le _
  | succ k => simpa [lastK] using h1

theorem cnt_take (xs : List (Nat × Nat)) (k : Nat) (h : k < xs.length) (i : Nat) : cnt (xs.take (k + 1)) i = cnt (xs.take k) i + if xs[k].1 ≤ i ∧ i < xs[k].2 then 1 else 0 := by
  rw [List.take_succ_eq_append_getElem h]
  unfold cnt
  rw [List.countP_append]
  simp only [List.countP_cons, List.countP_nil, Bool.and_eq_true, decide_eq_true_eq, Nat.zero_add]

/-- The counts while span (a, b) is entered up to i. -/
def cov (n : Nat) (xs : List (Nat × Nat)) (a i : Nat) : List Nat := (List.range n).map fun j => cnt xs j + if a ≤ j ∧ j < i then 1 else 0
theorem cov_len (n : Nat) (xs : List (Nat × Nat)) (a i : Nat) : (cov n xs a i).length = n := by simp [cov]
theorem cov_start (n : Nat) (xs : List (Nat × Nat)) (a : Nat) : cov n xs a a = (List.range n).map (cnt xs) := by
  unfold cov
  apply List.map_congr_left
  intro j _
  have : ¬ (a ≤ j ∧ j < a) := by omega
  simp [this]
theorem cov_end (n : Nat) (xs : List (Nat × Nat)) (k : Nat) (h : k < xs.length) : cov n (xs.take k) xs[k].1 xs[k].2 = (List.range n).map (cnt (xs.take (k + 1))) := by
  unfold cov
  apply List.map_congr_left
  intro j _
  rw [cnt_take xs k h]
theorem cov_step (n : Nat) (xs : List (Nat × Nat)) (a i : Nat) (hi : i < n) (ha : a ≤ i) : (cov n xs a i).set i (cnt xs i + 1) = cov n xs a (i + 1) := by
  apply List.ext_getElem
  · simp [cov]
  · intro j h1 h2
    have hj : j < n := by simpa [cov] using h2
    rw [List.getElem_set]
    by_cases e : i = j
    · subst e
      simp [cov, ha]
    · simp only [e, if_false]
      simp only [cov, List.getElem_map, List.getElem_range]
      have : (a ≤ j ∧ j < i) ↔ (a ≤ j ∧ j < i + 1) := by omega
      simp only [this]
theorem cov_get (n : Nat) (xs : List (Nat × Nat)) (a i : Nat) (hi : i < n) : (cov n xs a i)[i]? = some (cnt xs i) := by
  have : ¬ (a ≤ i ∧ i < i) := by omega
  simp [cov, hi]
theorem cov_zero (n : Nat) : (List.range n).map (cnt []) = List.replicate n 0 := by
  apply List.ext_getElem <;> simp [cnt]
end S
end Go.Proofs.Ythfpiomooomhoaa
