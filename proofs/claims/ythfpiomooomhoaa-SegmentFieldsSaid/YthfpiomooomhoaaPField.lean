/-
  The plain mathematics of layer 22: what is true of fields. By an AI agent.
-/
import Derived.Test.YthfpiomooomhoaaPCover
namespace Go.Proofs.Ythfpiomooomhoaa
namespace S

theorem gap_false_of {gs : List G} {i : Nat} (h : kd gs i ≠ 0) : gap gs i = false := by simp [gap, h]
theorem gap_true {gs : List G} {i : Nat} (h : gap gs i = true) : kd gs i = 0 ∧ (i = 0 ∨ i + 1 = gs.length ∨ kd gs (i - 1) = 0 ∨ kd gs (i + 1) = 0) := by
  simp only [gap, Bool.and_eq_true, Bool.or_eq_true, beq_iff_eq] at h
  obtain ⟨h1, h2⟩ := h
  exact ⟨h1, by rcases h2 with ((h | h) | h) | h <;> simp [h]⟩
theorem gap_false {gs : List G} {i : Nat} (h : gap gs i = false) (h0 : kd gs i = 0) : i ≠ 0 ∧ i + 1 ≠ gs.length ∧ kd gs (i - 1) ≠ 0 ∧ kd gs (i + 1) ≠ 0 := by
  simp only [gap, h0, beq_self_eq_true, Bool.true_and, Bool.or_eq_false_iff, beq_eq_false_iff_ne] at h
  exact ⟨h.1.1.1, h.1.1.2, h.1.2, h.2⟩

theorem fields_mem0 (gs : List G) (x : Nat × Nat) (hx : x ∈ fields gs) : (x.1 = 0 ∨ gap gs (x.1 - 1) = true) ∧ x.1 < x.2 ∧ x.2 ≤ gs.length ∧ (∀ i, x.1 ≤ i → i < x.2 → gap gs i = false) ∧ (x.2 = gs.length ∨ gap gs x.2 = true) := by
  rw [fields_kept] at hx
  obtain ⟨h1, h2, h3, h4, h5, h6⟩ := mem_kept gs.length (tgF gs) _ 0 (.inl rfl) (Nat.zero_le _) x hx
  have hall : ∀ i, x.1 ≤ i → i < x.2 → gap gs i = false := by
    intro i
    induction i with
    | zero => intro ha _; rw [show 0 = x.1 by omega]; exact h1
    | succ i ih =>
      intro ha hb
      by_cases e : x.1 = i + 1
      · rw [← e]; exact h1
      · have := h5 (i + 1) (by omega) hb
        simp only [tgF, Nat.add_sub_cancel, beq_iff_eq] at this
        rw [this]
        exact ih (by omega) (by omega)
  refine ⟨?_, h3, h4, hall, ?_⟩
  · rcases h2 with h | h
    · exact .inl h
    · right
      simp only [tgF, h1, beq_eq_false_iff_ne] at h
      cases hg : gap gs (x.1 - 1)
      · exact absurd hg.symm h
      · rfl
  · rcases h6 with h | h
    · exact .inl h
    · right
      have hl := hall (x.2 - 1) (by omega) (by omega)
      simp only [tgF, hl, beq_eq_false_iff_ne] at h
      cases hg : gap gs x.2
      · exact absurd hg h
      · rfl

theorem fields_mem (gs : List G) (x : Nat × Nat) (hx : x ∈ fields gs) : x.1 < x.2 ∧ x.2 ≤ gs.length ∧ kd gs x.1 ≠ 0 ∧ kd gs (x.2 - 1) ≠ 0 ∧ (∀ i, x.1 ≤ i → i + 1 < x.2 → kd gs i = 0 → kd gs (i + 1) ≠ 0) := by
  obtain ⟨h1, h2, h3, h4, h5⟩ := fields_mem0 gs x hx
  refine ⟨h2, h3, ?_, ?_, ?_⟩
  · intro h
    obtain ⟨a, _, b, _⟩ := gap_false (h4 x.1 (Nat.le_refl _) h2) h
    rcases h1 with h1 | h1
    · exact a h1
    · exact b (gap_true h1).1
  · intro h
    obtain ⟨_, a, _, b⟩ := gap_false (h4 (x.2 - 1) (by omega) (by omega)) h
    rw [show x.2 - 1 + 1 = x.2 by omega] at a b
    rcases h5 with h5 | h5
    · exact a h5
    · exact b (gap_true h5).1
  · intro i hi hi2 h0 h1'
    exact (gap_false (h4 i hi (by omega)) h0).2.2.2 h1'

theorem fields_apart (gs : List G) (k : Nat) (hk : k + 1 < (fields gs).length) : (fields gs)[k].2 + 2 ≤ (fields gs)[k + 1].1 := by
  obtain ⟨a1, a2, a3, a4, _⟩ := fields_mem gs _ (List.getElem_mem (show k < (fields gs).length by omega))
  obtain ⟨b1, b2, b3, b4, _⟩ := fields_mem gs _ (List.getElem_mem hk)
  obtain ⟨_, _, _, _, a5⟩ := fields_mem0 gs _ (List.getElem_mem (show k < (fields gs).length by omega))
  have h := (fields_asc gs).at (k + 1) hk
  have e : (fields gs).getD k (0, 0) = (fields gs)[k] := by simp [List.getD, show k < (fields gs).length by omega]
  simp only [Nat.add_sub_cancel, e] at h
  obtain ⟨h, _, _⟩ := h
  simp only [Nat.succ_ne_zero, if_false] at h
  generalize (fields gs)[k] = x at *
  generalize (fields gs)[k + 1] = y at *
  rcases a5 with a5 | a5
  · omega
  · obtain ⟨c1, c2⟩ := gap_true a5
    by_cases e1 : y.1 = x.2
    · rw [e1] at b3; exact absurd c1 b3
    · by_cases e2 : y.1 = x.2 + 1
      · rw [e2] at b3
        rcases c2 with c | c | c | c
        · omega
        · omega
        · exact absurd c a4
        · exact absurd c b3
      · omega
end S
end Go.Proofs.Ythfpiomooomhoaa
