/-
  The plain mathematics of layer 18 (scrolls): counting, rows after a scroll, gains. By an AI agent.
-/
namespace Go.Proofs.Ythohninbelhddaa
namespace V

/-- How many numbers from t up to e (not itself) are as p says. -/
def cntI (p : Nat → Bool) (t e : Nat) : Nat := ((List.range' t (e - t)).filter p).length

theorem cnt_none (p : Nat → Bool) {t e : Nat} (h : e ≤ t) : cntI p t e = 0 := by
  unfold cntI; rw [show e - t = 0 by omega]; rfl
theorem cnt_snoc (p : Nat → Bool) {t e : Nat} (h : t ≤ e) : cntI p t (e + 1) = cntI p t e + if p e then 1 else 0 := by
  unfold cntI
  rw [show e + 1 - t = (e - t) + 1 by omega, List.range'_concat, List.filter_append, List.length_append, show t + 1 * (e - t) = e by omega]
  by_cases h : p e <;> simp [h]
theorem cnt_le (p : Nat → Bool) (t e : Nat) : cntI p t e ≤ e - t := by
  unfold cntI
  have := List.length_filter_le p (List.range' t (e - t))
  simpa using this
theorem cnt_split (p : Nat → Bool) {t m e : Nat} (h1 : t ≤ m) (h2 : m ≤ e) : cntI p t e = cntI p t m + cntI p m e := by
  unfold cntI
  rw [← List.length_append, ← List.filter_append]
  congr 2
  rw [show e - t = (m - t) + (e - m) by omega, ← List.range'_append_1, show t + (m - t) = m by omega]
theorem cnt_congr {p q : Nat → Bool} {t e : Nat} (h : ∀ i, t ≤ i → i < e → p i = q i) : cntI p t e = cntI q t e := by
  unfold cntI
  congr 1
  refine List.filter_congr fun i hi => ?_
  simp only [List.mem_range'_1] at hi
  exact h i hi.1 (by omega)
theorem cnt_shift (p : Nat → Bool) (t e k : Nat) : cntI (fun i => p (i + k)) t e = cntI p (t + k) (e + k) := by
  unfold cntI
  rw [show e + k - (t + k) = e - t by omega, Nat.add_comm t k, ← List.map_add_range']
  simp [List.filter_map, Function.comp_def, Nat.add_comm]
theorem cnt_all {p : Nat → Bool} {t e : Nat} (h : ∀ i, t ≤ i → i < e → p i = true) : cntI p t e = e - t := by
  rw [cnt_congr (q := fun _ => true) h]
  unfold cntI
  rw [List.filter_eq_self.2 (by simp), List.length_range']
theorem cnt_zero {p : Nat → Bool} {t e : Nat} (h : ∀ i, t ≤ i → i < e → p i = false) : cntI p t e = 0 := by
  rw [cnt_congr (q := fun _ => false) h]
  unfold cntI
  rw [List.filter_eq_nil_iff.2 (by simp)]
  rfl
theorem cnt_full {p : Nat → Bool} {t e : Nat} (h : e - t ≤ cntI p t e) : ∀ i, t ≤ i → i < e → p i = true := by
  intro i hi he
  cases hp : p i with
  | true => rfl
  | false =>
    rw [cnt_split p hi (Nat.le_of_lt he), cnt_split p (Nat.le_succ i) he, cnt_snoc p (Nat.le_refl i), hp, cnt_none p (Nat.le_refl i)] at h
    have h1 := cnt_le p t i
    have h2 := cnt_le p (i + 1) e
    simp at h
    omega

variable {γ : Type}

/-- A scroll is possible in n rows. -/
def poss (n : Nat) (t e k : Int) : Prop := 0 ≤ t ∧ t < e ∧ e ≤ n ∧ k ≠ 0 ∧ k < e - t ∧ t - e < k
instance (n : Nat) (t e k : Int) : Decidable (poss n t e k) := by unfold poss; infer_instance
def possB (n : Nat) (t e k : Int) : Bool := decide (poss n t e k)

/-- Row i after a scroll. -/
def rowAt (l : List (List γ)) (t e k : Int) (i : Nat) : List γ :=
  if t ≤ i ∧ i < e then if t ≤ i + k ∧ i + k < e then l.getD (i + k).toNat [] else [] else l.getD i []
def rows (l : List (List γ)) (t e k : Int) : List (List γ) := (List.range l.length).map (rowAt l t e k)

theorem rows_length (l : List (List γ)) (t e k : Int) : (rows l t e k).length = l.length := by simp [rows]
theorem rows_get (l : List (List γ)) (t e k : Int) {i : Nat} (h : i < l.length) : (rows l t e k).getD i [] = rowAt l t e k i := by
  simp [rows, List.getD, h]
theorem rowAt_out {l : List (List γ)} {t e k : Int} {i : Nat} (h : ¬ (t ≤ i ∧ i < e)) : rowAt l t e k i = l.getD i [] := by rw [rowAt, if_neg h]
theorem rowAt_in {l : List (List γ)} {t e k : Int} {i : Nat} (h : t ≤ i ∧ i < e) (h' : t ≤ i + k ∧ i + k < e) : rowAt l t e k i = l.getD (i + k).toNat [] := by rw [rowAt, if_pos h, if_pos h']
theorem rowAt_lost {l : List (List γ)} {t e k : Int} {i : Nat} (h : t ≤ i ∧ i < e) (h' : ¬ (t ≤ i + k ∧ i + k < e)) : rowAt l t e k i = [] := by rw [rowAt, if_pos h, if_neg h']

/-- Back again. -/
theorem rows_back (l : List (List γ)) {t e k : Int} (hp : poss l.length t e k) {i : Nat} (hi : i < l.length) :
    (rows (rows l t e k) t e (-k)).getD i [] = if (t ≤ i ∧ i < e) ∧ ¬ (t ≤ i - k ∧ i - k < e) then [] else l.getD i [] := by
  obtain ⟨h1, h2, h3, h4, h5, h6⟩ := hp
  rw [rows_get _ _ _ _ (by rw [rows_length]; exact hi)]
  by_cases h : t ≤ i ∧ i < e
  · by_cases h' : t ≤ (i : Int) - k ∧ (i : Int) - k < e
    · rw [if_neg (by omega), rowAt_in h (by omega), rows_get _ _ _ _ (by omega), rowAt_in (by omega) (by omega)]
      congr 1
      omega
    · rw [if_pos ⟨h, h'⟩, rowAt_lost h (by omega)]
  · rw [if_neg (by omega), rowAt_out h, rows_get _ _ _ _ hi, rowAt_out h]

variable [DecidableEq γ]

def eqAt (a b : List (List γ)) (i : Nat) : Bool := decide (a.getD i [] = b.getD i [])
def hit (a b : List (List γ)) (t e k : Int) (i : Nat) : Bool := decide (rowAt a t e k i = b.getD i [])

/-- The gain of a possible scroll. -/
def gain (a b : List (List γ)) (t e k : Int) : Int := (cntI (hit a b t e k) t.toNat e.toNat : Int) - (cntI (eqAt a b) t.toNat e.toNat : Int)

theorem gain_le (a b : List (List γ)) (t e k : Int) (h : 0 ≤ t) (h' : t ≤ e) : gain a b t e k ≤ e - t ∧ t - e ≤ gain a b t e k := by
  have h1 := cnt_le (hit a b t e k) t.toNat e.toNat
  have h2 := cnt_le (eqAt a b) t.toNat e.toNat
  unfold gain
  omega

theorem gain_self (a : List (List γ)) (t e k : Int) : gain a a t e k ≤ 0 := by
  have h1 := cnt_le (hit a a t e k) t.toNat e.toNat
  have h2 : cntI (eqAt a a) t.toNat e.toNat = e.toNat - t.toNat := cnt_all (fun i _ _ => by simp [eqAt])
  unfold gain
  omega

theorem eqAt_comm (a b : List (List γ)) (i : Nat) : eqAt a b i = eqAt b a i := by
  unfold eqAt; rw [decide_eq_decide]; exact ⟨Eq.symm, Eq.symm⟩

theorem inverse_pos (a b : List (List γ)) {n : Nat} {t e k : Int} (hp : poss n t e k) (hk : 0 < k) :
    gain a b t e k - gain b a t e (-k) ≤ k ∧ gain b a t e (-k) - gain a b t e k ≤ k := by
  obtain ⟨h1, h2, h3, h4, h5, h6⟩ := hp
  obtain ⟨T, rfl⟩ : ∃ T : Nat, t = T := ⟨t.toNat, by omega⟩
  obtain ⟨E, rfl⟩ : ∃ E : Nat, e = E := ⟨e.toNat, by omega⟩
  obtain ⟨K, rfl⟩ : ∃ K : Nat, k = K := ⟨k.toNat, by omega⟩
  unfold gain
  simp only [Int.toNat_natCast]
  have s1 := cnt_split (hit a b T E K) (t := T) (m := E - K) (e := E) (by omega) (by omega)
  have s2 := cnt_split (hit b a T E (-K)) (t := T) (m := T + K) (e := E) (by omega) (by omega)
  have s3 : cntI (hit a b T E K) T (E - K) = cntI (fun i => decide (a.getD (i + K) [] = b.getD i [])) T (E - K) := cnt_congr (fun i hi he => by
    unfold hit
    rw [rowAt_in (by omega) (by omega), show ((i : Int) + K).toNat = i + K by omega])
  have s4 : cntI (hit b a T E (-K)) (T + K) E = cntI (fun i => decide (a.getD (i + K) [] = b.getD i [])) T (E - K) := by
    rw [show E = (E - K) + K by omega, ← cnt_shift, show E - K + K = E by omega]
    refine cnt_congr (fun i hi he => ?_)
    unfold hit
    rw [rowAt_in (by omega) (by omega), show (((i + K : Nat) : Int) + -(K : Int)).toNat = i by omega, decide_eq_decide]
    exact ⟨Eq.symm, Eq.symm⟩
  have s5 := cnt_le (hit a b T E K) (E - K) E
  have s6 := cnt_le (hit b a T E (-K)) T (T + K)
  have s7 : cntI (eqAt a b) T E = cntI (eqAt b a) T E := cnt_congr (fun i _ _ => eqAt_comm a b i)
  omega

theorem inverse (a b : List (List γ)) {n : Nat} {t e k : Int} (hp : poss n t e k) :
    gain a b t e k - gain b a t e (-k) ≤ max k (-k) ∧ gain b a t e (-k) - gain a b t e k ≤ max k (-k) := by
  by_cases hk : 0 < k
  · have := inverse_pos a b hp hk
    omega
  · obtain ⟨h1, h2, h3, h4, h5, h6⟩ := hp
    have hp' : poss n t e (-k) := ⟨h1, h2, h3, by omega, by omega, by omega⟩
    have := inverse_pos b a hp' (by omega)
    rw [Int.neg_neg] at this
    omega

/-! What a scroll is recognized by. -/
def Distinct (v : List (List γ)) : Prop := (∀ i, i < v.length → v.getD i [] ≠ []) ∧ ∀ i j, i < v.length → j < v.length → v.getD i [] = v.getD j [] → i = j

theorem gain_true {v : List (List γ)} (hv : Distinct v) {t e k : Int} (hp : poss v.length t e k) : gain v (rows v t e k) t e k = e - t := by
  obtain ⟨h1, h2, h3, h4, h5, h6⟩ := hp
  have a1 : cntI (hit v (rows v t e k) t e k) t.toNat e.toNat = e.toNat - t.toNat := cnt_all (fun i hi he => by
    unfold hit; rw [rows_get _ _ _ _ (by omega)]; simp)
  have a2 : cntI (eqAt v (rows v t e k)) t.toNat e.toNat = 0 := cnt_zero (fun i hi he => by
    unfold eqAt
    rw [rows_get _ _ _ _ (by omega)]
    by_cases h : t ≤ i + k ∧ i + k < e
    · rw [rowAt_in (by omega) h, decide_eq_false_iff_not]
      intro hh
      have := hv.2 i (i + k).toNat (by omega) (by omega) hh
      omega
    · rw [rowAt_lost (by omega) h, decide_eq_false_iff_not]
      exact hv.1 i (by omega))
  unfold gain
  omega

theorem recognized {v : List (List γ)} (hv : Distinct v) {t e k t' e' k' : Int} (hp : poss v.length t e k) (h2' : max k (-k) < e - t) (hp' : poss v.length t' e' k') :
    gain v (rows v t e k) t' e' k' ≤ e - t ∧ (gain v (rows v t e k) t' e' k' = e - t → t' = t ∧ e' = e ∧ k' = k) := by
  obtain ⟨h1, h2, h3, h4, h5, h6⟩ := hp
  obtain ⟨g1, g2, g3, g4, g5, g6⟩ := hp'
  -- hits lie inside, equal rows outside
  have out : ∀ i : Nat, i < v.length → ¬ (t ≤ i ∧ i < e) → eqAt v (rows v t e k) i = true ∧ (t' ≤ i ∧ i < e' → hit v (rows v t e k) t' e' k' i = false) := by
    intro i hi ho
    have e0 : (rows v t e k).getD i [] = v.getD i [] := by rw [rows_get _ _ _ _ hi, rowAt_out ho]
    refine ⟨by unfold eqAt; rw [e0]; simp, fun hin => ?_⟩
    unfold hit
    rw [e0, decide_eq_false_iff_not]
    by_cases h : t' ≤ i + k' ∧ i + k' < e'
    · rw [rowAt_in hin h]
      intro hh
      have := hv.2 _ i (by omega) hi hh
      omega
    · rw [rowAt_lost hin h]
      exact fun hh => hv.1 i hi hh.symm
  obtain ⟨T, rfl⟩ : ∃ T : Nat, t = T := ⟨t.toNat, by omega⟩
  obtain ⟨E, rfl⟩ : ∃ E : Nat, e = E := ⟨e.toNat, by omega⟩
  obtain ⟨T', rfl⟩ : ∃ T : Nat, t' = T := ⟨t'.toNat, by omega⟩
  obtain ⟨E', rfl⟩ : ∃ E : Nat, e' = E := ⟨e'.toNat, by omega⟩
  unfold gain
  simp only [Int.toNat_natCast]
  -- three parts: before, inside, behind
  have parts : ∀ p : Nat → Bool, cntI p T' E' = cntI p T' (min E' (max T T')) + cntI p (min E' (max T T')) (max T' (min E E')) + cntI p (max T' (min E E')) E' ∨ E ≤ T' ∨ E' ≤ T := by
    intro p
    by_cases h : E ≤ T' ∨ E' ≤ T
    · exact .inr h
    · left
      rw [cnt_split p (t := T') (m := min E' (max T T')) (e := E') (by omega) (by omega), cnt_split p (t := min E' (max T T')) (m := max T' (min E E')) (e := E') (by omega) (by omega)]
      omega
  by_cases hout : E ≤ T' ∨ E' ≤ T
  · have z : cntI (hit v (rows v T E k) T' E' k') T' E' = 0 := cnt_zero (fun i hi he => (out i (by omega) (by omega)).2 (by omega))
    rw [z]
    omega
  · have ph := (parts (hit v (rows v T E k) T' E' k')).resolve_right hout
    have pe := (parts (eqAt v (rows v T E k))).resolve_right hout
    have z1 : cntI (hit v (rows v T E k) T' E' k') T' (min E' (max T T')) = 0 := cnt_zero (fun i hi he => (out i (by omega) (by omega)).2 (by omega))
    have z2 : cntI (hit v (rows v T E k) T' E' k') (max T' (min E E')) E' = 0 := cnt_zero (fun i hi he => (out i (by omega) (by omega)).2 (by omega))
    have z3 := cnt_le (hit v (rows v T E k) T' E' k') (min E' (max T T')) (max T' (min E E'))
    have y1 : cntI (eqAt v (rows v T E k)) T' (min E' (max T T')) = min E' (max T T') - T' := cnt_all (fun i hi he => (out i (by omega) (by omega)).1)
    have y2 : cntI (eqAt v (rows v T E k)) (max T' (min E E')) E' = E' - max T' (min E E') := cnt_all (fun i hi he => (out i (by omega) (by omega)).1)
    refine ⟨by omega, fun heq => ?_⟩
    have et : T' = T := by omega
    have ee : E' = E := by omega
    subst et ee
    refine ⟨rfl, rfl, ?_⟩
    have hfull : E' - T' ≤ cntI (hit v (rows v T' E' k) T' E' k') T' E' := by omega
    -- a kept row
    obtain ⟨i, hi1, hi2, hi3, hi4⟩ : ∃ i : Nat, T' ≤ i ∧ i < E' ∧ (T' : Int) ≤ i + k ∧ i + k < E' := by
      by_cases hk : 0 < k
      · exact ⟨T', by omega, by omega, by omega, by omega⟩
      · exact ⟨E' - 1, by omega, by omega, by omega, by omega⟩
    have hh := cnt_full hfull i hi1 hi2
    unfold hit at hh
    rw [decide_eq_true_eq, rows_get _ _ _ _ (by omega), rowAt_in (t := T') (e := E') (k := k) (by omega) ⟨hi3, hi4⟩] at hh
    by_cases h : (T' : Int) ≤ i + k' ∧ i + k' < E'
    · rw [rowAt_in (by omega) h] at hh
      have := hv.2 _ _ (by omega) (by omega) hh
      omega
    · rw [rowAt_lost (by omega) h] at hh
      exact absurd hh.symm (hv.1 _ (by omega))
end V
end Go.Proofs.Ythohninbelhddaa
