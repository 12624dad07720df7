/-
  The plain mathematics of layer 16: what is known of the next step, and of the edits so far. By an AI agent.
-/
import Derived.Test.YteakiielcmgkeaaEPlain3
namespace Go.Proofs.Yteakiielcmgkeaa
namespace E
section
variable {α : Type} [DecidableEq α]

theorem rest_next {a b : List α} {i j : Nat} {x : Nat × Nat} {t : List (Nat × Nat)} (h : x :: t = rest a b i j) :
    x.2 = i ∧ ((x.1 = 0 ∧ i < a.length ∧ j < b.length ∧ t = rest a b (i + 1) (j + 1)) ∨ (x.1 = 1 ∧ i < a.length ∧ t = rest a b (i + 1) j) ∨ (x.1 = 2 ∧ j < b.length ∧ t = rest a b i (j + 1))) := by
  rcases Nat.lt_or_ge i a.length with h1 | h1
  · rcases Nat.lt_or_ge j b.length with h2 | h2
    · by_cases e : a[i] = b[j]
      · rw [rest_match h1 h2 e] at h
        obtain ⟨rfl, rfl⟩ := List.cons.inj h
        exact ⟨rfl, .inl ⟨rfl, h1, h2, rfl⟩⟩
      · by_cases hl : lcs (a.drop i) (b.drop (j + 1)) ≤ lcs (a.drop (i + 1)) (b.drop j)
        · rw [rest_rem h1 h2 e hl] at h
          obtain ⟨rfl, rfl⟩ := List.cons.inj h
          exact ⟨rfl, .inr (.inl ⟨rfl, h1, rfl⟩)⟩
        · rw [rest_add h1 h2 e hl] at h
          obtain ⟨rfl, rfl⟩ := List.cons.inj h
          exact ⟨rfl, .inr (.inr ⟨rfl, h2, rfl⟩)⟩
    · rw [rest_rem_end h1 h2] at h
      obtain ⟨rfl, rfl⟩ := List.cons.inj h
      exact ⟨rfl, .inr (.inl ⟨rfl, h1, rfl⟩)⟩
  · rcases Nat.lt_or_ge j b.length with h2 | h2
    · rw [rest_add_end h1 h2] at h
      obtain ⟨rfl, rfl⟩ := List.cons.inj h
      exact ⟨rfl, .inr (.inr ⟨rfl, h2, rfl⟩)⟩
    · rw [rest_end h1 h2] at h
      cases h

variable [Inhabited α]
theorem rest_at (a b : List α) (suf : List (Nat × Nat)) : ∀ (pre : List (Nat × Nat)) (i j : Nat) (l : List (Ed α)) (p : Bool), i ≤ a.length → j ≤ b.length → pre ++ suf = rest a b i j →
    ∃ i' j', i' ≤ a.length ∧ j' ≤ b.length ∧ suf = rest a b i' j' ∧ (pre.foldl (sstep b) (l, p, j)).2.2 = j'
  | [], i, j, l, p, hi, hj, h => ⟨i, j, hi, hj, h, rfl⟩
  | x :: pre, i, j, l, p, hi, hj, h => by
    obtain ⟨e, hc⟩ := rest_next (x := x) (t := pre ++ suf) h
    rw [List.foldl_cons]
    obtain ⟨s, k⟩ := x
    rcases hc with ⟨e1, h1, h2, h3⟩ | ⟨e1, h1, h3⟩ | ⟨e1, h2, h3⟩
    · obtain rfl : s = 0 := e1
      rw [sstep_0]
      exact rest_at a b suf pre (i + 1) (j + 1) _ _ h1 h2 h3
    · obtain rfl : s = 1 := e1
      rw [sstep_1]
      exact rest_at a b suf pre (i + 1) j _ _ h1 hj h3
    · obtain rfl : s = 2 := e1
      rw [sstep_2]
      exact rest_at a b suf pre i (j + 1) _ _ hi h2 h3

/-- The next step. -/
theorem ys_next {a b : List α} {pre : List (Nat × Nat)} {x : Nat × Nat} (h : pre ++ [x] <+: ys a b) :
    x.2 ≤ a.length ∧ ((x.1 = 0 ∧ x.2 < a.length ∧ (sst b pre).2.2 < b.length) ∨ (x.1 = 1 ∧ x.2 < a.length ∧ (sst b pre).2.2 ≤ b.length) ∨ (x.1 = 2 ∧ (sst b pre).2.2 < b.length)) := by
  obtain ⟨t, ht⟩ := h
  rw [List.append_assoc] at ht
  obtain ⟨i, j, hi, hj, he, hs⟩ := rest_at a b ([x] ++ t) pre 0 0 [] false (Nat.zero_le _) (Nat.zero_le _) ht
  have hs' : (sst b pre).2.2 = j := hs
  obtain ⟨e, hc⟩ := rest_next (x := x) (t := t) he
  rw [hs', e]
  refine ⟨hi, ?_⟩
  rcases hc with ⟨e1, h1, h2, h3⟩ | ⟨e1, h1, h3⟩ | ⟨e1, h2, h3⟩
  · exact .inl ⟨e1, h1, h2⟩
  · exact .inr (.inl ⟨e1, h1, hj⟩)
  · exact .inr (.inr ⟨e1, h2⟩)
omit [Inhabited α] in
theorem ys_pre_len {a b : List α} {pre : List (Nat × Nat)} {x : Nat × Nat} (h : pre ++ [x] <+: ys a b) : pre.length < a.length + b.length := by
  have := h.length_le
  have := ys_len a b
  simp at *
  omega
omit [DecidableEq α] in
theorem cst_len (a : List α) (pre : List (Nat × Nat)) : (cst a pre).length ≤ pre.length := by
  induction pre with
  | nil => simp [cst]
  | cons x pre ih =>
    obtain ⟨s, i⟩ := x
    rw [cst_cons]
    by_cases h : s = 0 <;> simp [h] <;> omega

/-- The edits so far: bounds. -/
def Low (n : Nat) (l : List (Ed α)) : Prop := l.length ≤ n ∧ ∀ e ∈ l, 0 ≤ e.del ∧ e.del ≤ n ∧ e.ins.length ≤ n ∧ 0 ≤ e.at_
omit [DecidableEq α] [Inhabited α] in
theorem mem_modLast {f : Ed α → Ed α} {l : List (Ed α)} {y : Ed α} (h : y ∈ modLast f l) : (∃ x ∈ l, y = f x) ∨ y ∈ l := by
  induction l with
  | nil => simp [modLast] at h
  | cons x l ih =>
    cases l with
    | nil => simp [modLast] at h; exact .inl ⟨x, by simp, h⟩
    | cons z l =>
      simp only [modLast, List.mem_cons] at h
      rcases h with rfl | h
      · exact .inr (by simp)
      · rcases ih h with ⟨u, hu, e⟩ | h'
        · exact .inl ⟨u, List.mem_cons_of_mem _ hu, e⟩
        · exact .inr (List.mem_cons_of_mem _ h')
omit [DecidableEq α] in
theorem sstep_low (b : List α) {n : Nat} {st : List (Ed α) × Bool × Nat} (h : Low n st.1) (hb : st.2.1 = true → st.1 ≠ []) (x : Nat × Nat) : Low (n + 1) (sstep b st x).1 ∧ ((sstep b st x).2.1 = true → (sstep b st x).1 ≠ []) := by
  obtain ⟨l, p, j⟩ := st
  obtain ⟨s, i⟩ := x
  have ho : Low (n + 1) (if p = true then l else l ++ [(⟨i, 0, []⟩ : Ed α)]) ∧ (∀ e ∈ (if p = true then l else l ++ [(⟨i, 0, []⟩ : Ed α)]), e.del ≤ n ∧ e.ins.length ≤ n) ∧ (if p = true then l else l ++ [(⟨i, 0, []⟩ : Ed α)]) ≠ [] := by
    have h1 := h.1
    have h2 := h.2
    simp only at h1 h2
    cases p with
    | true => exact ⟨⟨by simp; omega, fun e he => by obtain ⟨a1, a2, a3, a4⟩ := h2 e he; exact ⟨a1, by omega, by omega, a4⟩⟩, fun e he => by obtain ⟨a1, a2, a3, a4⟩ := h2 e he; exact ⟨a2, a3⟩, hb rfl⟩
    | false =>
      refine ⟨⟨by simp; omega, fun e he => ?_⟩, fun e he => ?_, by simp⟩
      · simp only [Bool.false_eq_true, if_false, List.mem_append, List.mem_singleton] at he
        rcases he with he | rfl
        · obtain ⟨a1, a2, a3, a4⟩ := h2 e he; exact ⟨a1, by omega, by omega, a4⟩
        · simp; omega
      · simp only [Bool.false_eq_true, if_false, List.mem_append, List.mem_singleton] at he
        rcases he with he | rfl
        · obtain ⟨a1, a2, a3, a4⟩ := h2 e he; exact ⟨a2, a3⟩
        · simp
  obtain ⟨o1, o2, o3⟩ := ho
  by_cases h0 : s = 0
  · subst h0
    rw [sstep_0]
    exact ⟨⟨Nat.le_succ_of_le h.1, fun e he => by obtain ⟨a1, a2, a3, a4⟩ := h.2 e he; exact ⟨a1, by omega, by omega, a4⟩⟩, fun e => by cases e⟩
  · have hne : ∀ (f : Ed α → Ed α) (l' : List (Ed α)), l' ≠ [] → modLast f l' ≠ [] := fun f l' hl e => hl (by have := modLast_len f l'; rw [e] at this; exact List.eq_nil_of_length_eq_zero this.symm)
    by_cases h1 : s = 1
    · subst h1
      rw [sstep_1]
      refine ⟨⟨by rw [modLast_len]; exact o1.1, fun y hy => ?_⟩, fun _ => hne _ _ o3⟩
      rcases mem_modLast hy with ⟨u, hu, rfl⟩ | hy
      · obtain ⟨a1, a2, a3, a4⟩ := o1.2 u hu
        have := o2 u hu
        exact ⟨by simp; omega, by simp; omega, a3, a4⟩
      · exact o1.2 y hy
    · rw [show sstep b (l, p, j) (s, i) = (modLast (fun e => { e with ins := e.ins ++ [b.getD j default] }) (if p = true then l else l ++ [⟨i, 0, []⟩]), true, j + 1) by simp [sstep, h0, h1]]
      refine ⟨⟨by rw [modLast_len]; exact o1.1, fun y hy => ?_⟩, fun _ => hne _ _ o3⟩
      rcases mem_modLast hy with ⟨u, hu, rfl⟩ | hy
      · obtain ⟨a1, a2, a3, a4⟩ := o1.2 u hu
        have := o2 u hu
        exact ⟨a1, a2, by simp; omega, a4⟩
      · exact o1.2 y hy
omit [DecidableEq α] in
theorem sst_low (b : List α) (pre : List (Nat × Nat)) : Low pre.length (sst b pre).1 ∧ ((sst b pre).2.1 = true → (sst b pre).1 ≠ []) := by
  have : ∀ (pre : List (Nat × Nat)) (n : Nat) (st : List (Ed α) × Bool × Nat), Low n st.1 → (st.2.1 = true → st.1 ≠ []) → Low (n + pre.length) (pre.foldl (sstep b) st).1 ∧ ((pre.foldl (sstep b) st).2.1 = true → (pre.foldl (sstep b) st).1 ≠ []) := by
    intro pre
    induction pre with
    | nil => intro n st h hb; exact ⟨h, hb⟩
    | cons x pre ih =>
      intro n st h hb
      obtain ⟨h1, h2⟩ := sstep_low b h hb x
      have := ih (n + 1) _ h1 h2
      rw [List.foldl_cons, show n + (x :: pre).length = n + 1 + pre.length by simp; omega]
      exact this
  have := this pre 0 ([], false, 0) ⟨by simp, fun e he => by simp at he⟩ (fun e => by cases e)
  simpa [sst] using this
end
end E
end Go.Proofs.Yteakiielcmgkeaa
