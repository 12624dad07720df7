/-
  The plain mathematics of layer 22: the reference's fields. By an AI agent.
-/
import Derived.Test.YthfpiomooomhoaaPRef
import Derived.Test.YthfpiomooomhoaaPField
namespace Go.Proofs.Ythfpiomooomhoaa
namespace S

/-- The fields of the first n glyphs, from s on: there is one such list at most. -/
def FL (kd : Nat → Nat) (n : Nat) : Nat → List (Nat × Nat) → Prop
  | s, [] => ∀ i, s ≤ i → i < n → kd i = 0
  | s, x :: t => s ≤ x.1 ∧ (∀ i, s ≤ i → i < x.1 → kd i = 0) ∧ kd x.1 ≠ 0 ∧ x.1 < x.2 ∧ x.2 ≤ n ∧ kd (x.2 - 1) ≠ 0 ∧
      (∀ i, x.1 ≤ i → i + 1 < x.2 → kd i = 0 → kd (i + 1) ≠ 0) ∧ (∀ i, x.2 ≤ i → i < x.2 + 2 → i < n → kd i = 0) ∧ FL kd n x.2 t

theorem FL.unique {kd : Nat → Nat} {n : Nat} : ∀ {xs ys : List (Nat × Nat)} {s : Nat}, FL kd n s xs → FL kd n s ys → xs = ys
  | [], [], _, _, _ => rfl
  | [], y :: _, _, h, ⟨h1, _, h3, h4, h5, _⟩ => absurd (h y.1 h1 (by omega)) h3
  | x :: _, [], _, ⟨h1, _, h3, h4, h5, _⟩, h => absurd (h x.1 h1 (by omega)) h3
  | x :: xs, y :: ys, s, ⟨a1, a2, a3, a4, a5, a6, a7, a8, a9⟩, ⟨b1, b2, b3, b4, b5, b6, b7, b8, b9⟩ => by
    have e1 : x.1 = y.1 := by
      rcases Nat.lt_trichotomy x.1 y.1 with h | h | h
      · exact absurd (b2 _ a1 h) a3
      · exact h
      · exact absurd (a2 _ b1 h) b3
    have key : ∀ (p q : Nat × Nat), p.1 = q.1 → p.1 < p.2 → q.2 ≤ n → kd (q.2 - 1) ≠ 0 → (∀ i, q.1 ≤ i → i + 1 < q.2 → kd i = 0 → kd (i + 1) ≠ 0) → (∀ i, p.2 ≤ i → i < p.2 + 2 → i < n → kd i = 0) → ¬ p.2 < q.2 := by
      intro p q hpq hp hq hq1 hq2 hp2 hlt
      have z0 := hp2 p.2 (Nat.le_refl _) (by omega) (by omega)
      by_cases e : q.2 = p.2 + 1
      · rw [e] at hq1; exact hq1 z0
      · exact hq2 p.2 (by omega) (by omega) z0 (hp2 (p.2 + 1) (by omega) (by omega) (by omega))
    have e2 : x.2 = y.2 := by
      have k1 := key x y e1 a4 b5 b6 b7 a8
      have k2 := key y x e1.symm b4 a5 a6 a7 b8
      omega
    have e : x = y := Prod.ext e1 e2
    subst e
    rw [FL.unique a9 b9]

theorem FL.blank {kd : Nat → Nat} {k : Nat} (h0 : kd k = 0) : ∀ {xs : List (Nat × Nat)} {s : Nat}, FL kd k s xs → FL kd (k + 1) s xs
  | [], _, h => fun i h1 h2 => by
    by_cases e : i = k
    · rw [e, h0]
    · exact h i h1 (by omega)
  | x :: _, _, ⟨a1, a2, a3, a4, a5, a6, a7, a8, a9⟩ => ⟨a1, a2, a3, a4, by omega, a6, a7, fun i h1 h2 h3 => by
      by_cases e : i = k
      · rw [e, h0]
      · exact a8 i h1 h2 (by omega), FL.blank h0 a9⟩

/-- A glyph that is not blank enters the fields. -/
def rfe (k : Nat) : List (Nat × Nat) → List (Nat × Nat)
  | [] => [(k, k + 1)]
  | [x] => if k < x.2 + 2 then [(x.1, k + 1)] else [x, (k, k + 1)]
  | x :: y :: l => x :: rfe k (y :: l)

theorem FL.enter {kd : Nat → Nat} {k : Nat} (h0 : kd k ≠ 0) : ∀ {xs : List (Nat × Nat)} {s : Nat}, s ≤ k → FL kd k s xs → FL kd (k + 1) s (rfe k xs)
  | [], s, hs, h => ⟨hs, fun i h1 h2 => h i h1 h2, h0, by simp, Nat.le_refl _, by simpa using h0, fun i h1 h2 => by simp at h1 h2; omega, fun i h1 h2 h3 => by simp at h1; omega, fun i h1 h2 => by simp at h1; omega⟩
  | [x], s, hs, ⟨a1, a2, a3, a4, a5, a6, a7, a8, a9⟩ => by
    unfold rfe
    by_cases hk : k < x.2 + 2
    · rw [if_pos hk]
      refine ⟨a1, a2, a3, by show x.1 < k + 1; omega, Nat.le_refl _, by simpa using h0, fun i h1 h2 h3 => ?_, fun i h1 h2 h3 => by simp at h1; omega, fun i h1 h2 => by simp at h1; omega⟩
      simp only at h1 h2
      by_cases e : i + 1 < x.2
      · exact a7 i h1 e h3
      · by_cases e2 : i + 1 = x.2
        · rw [show i = x.2 - 1 by omega] at h3; exact absurd h3 a6
        · rw [show i + 1 = k by omega]; exact h0
    · rw [if_neg hk]
      refine ⟨a1, a2, a3, a4, by omega, a6, a7, fun i h1 h2 h3 => a8 i h1 h2 (by omega), ?_⟩
      exact ⟨by show x.2 ≤ k; omega, fun i h1 h2 => a9 i h1 h2, h0, by simp, Nat.le_refl _, by simpa using h0, fun i h1 h2 => by simp at h1 h2; omega, fun i h1 h2 h3 => by simp at h1; omega, fun i h1 h2 => by simp at h1; omega⟩
  | x :: y :: l, s, hs, ⟨a1, a2, a3, a4, a5, a6, a7, a8, a9⟩ => by
    have b := a9
    obtain ⟨b1, b2, b3, b4, b5, _⟩ := b
    refine ⟨a1, a2, a3, a4, by omega, a6, a7, fun i h1 h2 h3 => ?_, FL.enter h0 (by omega) a9⟩
    by_cases e : i = k
    · exfalso
      by_cases e2 : y.1 < x.2 + 2
      · exact b3 (a8 y.1 b1 e2 (by omega))
      · omega
    · exact a8 i h1 h2 (by omega)

/-- One round of the reference's Fields. -/
def rfstep (gs : List G) (out : List (Nat × Nat)) (i : Nat) : List (Nat × Nat) := if kd gs i = 0 then out else rfe i out
def rfields (gs : List G) (k : Nat) : List (Nat × Nat) := (List.range k).foldl (rfstep gs) []
theorem rfields_succ (gs : List G) (k : Nat) : rfields gs (k + 1) = rfstep gs (rfields gs k) k := by
  unfold rfields; rw [List.range_succ, List.foldl_append]; rfl

theorem FL_rfields (gs : List G) : ∀ k, FL (kd gs) k 0 (rfields gs k)
  | 0 => fun i h1 h2 => by omega
  | k + 1 => by
    rw [rfields_succ]
    unfold rfstep
    by_cases h : kd gs k = 0
    · rw [if_pos h]; exact (FL_rfields gs k).blank h
    · rw [if_neg h]; exact (FL_rfields gs k).enter h (Nat.zero_le _)

theorem FL_of {kd : Nat → Nat} {n : Nat} : ∀ {xs : List (Nat × Nat)} {s : Nat}, Asc n s xs → (∀ i, s ≤ i → i < n → cnt xs i = 0 → kd i = 0) →
    (∀ x ∈ xs, kd x.1 ≠ 0 ∧ kd (x.2 - 1) ≠ 0 ∧ (∀ i, x.1 ≤ i → i + 1 < x.2 → kd i = 0 → kd (i + 1) ≠ 0) ∧ (∀ i, x.2 ≤ i → i < x.2 + 2 → i < n → kd i = 0)) → FL kd n s xs
  | [], _, _, hc, _ => fun i h1 h2 => hc i h1 h2 rfl
  | x :: xs, s, ⟨a1, a2, a3, a4⟩, hc, hg => by
    obtain ⟨g1, g2, g3, g4⟩ := hg x (by simp)
    refine ⟨a1, fun i h1 h2 => ?_, g1, a2, a3, g2, g3, g4, FL_of a4 (fun i h1 h2 h3 => ?_) (fun y hy => hg y (by simp [hy]))⟩
    · refine hc i h1 (by omega) ?_
      rw [cnt_cons, cnt_low a4 (by omega), if_neg (by omega)]
    · refine hc i (by omega) h2 ?_
      rw [cnt_cons, h3, if_neg (by omega)]

theorem fields_ref (gs : List G) : rfields gs gs.length = fields gs := by
  refine FL.unique (FL_rfields gs gs.length) (FL_of (fields_asc gs) (fun i _ hi h => ?_) (fun x hx => ?_))
  · have hc := fields_cnt gs i hi
    rw [h] at hc
    cases hg : gap gs i
    · rw [hg] at hc; simp at hc
    · exact (gap_true hg).1
  · obtain ⟨m1, m2, m3, m4, m5⟩ := fields_mem gs x hx
    obtain ⟨_, _, _, _, f5⟩ := fields_mem0 gs x hx
    refine ⟨m3, m4, m5, fun i h1 h2 h3 => ?_⟩
    rcases f5 with f5 | f5
    · omega
    · obtain ⟨c1, c2⟩ := gap_true f5
      by_cases e : i = x.2
      · rw [e]; exact c1
      · have e' : i = x.2 + 1 := by omega
        rcases c2 with c | c | c | c
        · omega
        · omega
        · exact absurd c m4
        · rw [e']; exact c

theorem rfe_eq (k : Nat) : ∀ (l : List (Nat × Nat)) (h : l ≠ []), rfe k l = if k < (l.getLast h).2 + 2 then ext (k + 1) l else l ++ [(k, k + 1)]
  | [], h => absurd rfl h
  | [x], _ => rfl
  | x :: y :: l, _ => by
    have hgl : ∀ h', (x :: y :: l).getLast h' = (y :: l).getLast (by simp) := fun _ => List.getLast_cons_cons
    rw [hgl]
    show x :: rfe k (y :: l) = _
    rw [rfe_eq k (y :: l) (by simp)]
    split
    · rw [ext_cons (k + 1) x (by simp)]
    · rfl
end S
end Go.Proofs.Ythfpiomooomhoaa
