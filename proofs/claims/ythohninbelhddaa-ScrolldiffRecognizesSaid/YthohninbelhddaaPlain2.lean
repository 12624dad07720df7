/-
  The plain mathematics of layer 18: which scroll is found. By an AI agent.
-/
import Derived.Test.YthohninbelhddaaPlain
namespace Go.Proofs.Ythohninbelhddaa
namespace V

/-- A scroll: top, bottom, by. -/
structure Sc where
  t : Int
  e : Int
  k : Int
deriving DecidableEq

def mag (k : Int) : Int := if k < 0 then -k else k

/-- The order in which the reference looks at scrolls. -/
def pre (c d : Sc) : Prop := mag c.k < mag d.k ∨ mag c.k = mag d.k ∧ (d.k < c.k ∨ d.k = c.k ∧ (c.t < d.t ∨ c.t = d.t ∧ d.e < c.e))
instance (c d : Sc) : Decidable (pre c d) := by unfold pre; infer_instance

theorem pre_tri (c d : Sc) : c = d ∨ pre c d ∨ pre d c := by
  obtain ⟨t, e, k⟩ := c
  obtain ⟨t', e', k'⟩ := d
  unfold pre mag
  by_cases h : t = t' ∧ e = e' ∧ k = k'
  · left; obtain ⟨rfl, rfl, rfl⟩ := h; rfl
  · right
    simp only
    split <;> split <;> omega
theorem pre_irr (c d : Sc) (h : pre c d) : ¬ pre d c := by
  obtain ⟨t, e, k⟩ := c
  obtain ⟨t', e', k'⟩ := d
  unfold pre mag at *
  simp only at *
  revert h
  split <;> split <;> omega
theorem pre_ne (c : Sc) : ¬ pre c c := fun h => pre_irr c c h h
theorem pre_trans {c d f : Sc} (h1 : pre c d) (h2 : pre d f) : pre c f := by
  unfold pre at *
  generalize mag c.k = x at *
  generalize mag d.k = y at *
  generalize mag f.k = z at *
  omega

section
variable (g : Sc → Int)

/-- Preferred. -/
def bt (c d : Sc) : Prop := g d < g c ∨ g d = g c ∧ pre c d
instance (c d : Sc) : Decidable (bt g c d) := by unfold bt; infer_instance

/-- The best of the scrolls that P speaks of, if one of them gains 2 or more. -/
def Best (P : Sc → Prop) : Option Sc → Prop
  | none => ∀ c, P c → g c < 2
  | some m => P m ∧ 2 ≤ g m ∧ ∀ c, P c → c = m ∨ bt g m c

theorem best_nothing : Best g (fun _ => False) none := fun _ h => h.elim

theorem best_unique {P : Sc → Prop} {m m' : Option Sc} (h : Best g P m) (h' : Best g P m') : m = m' := by
  cases m with
  | none =>
    cases m' with
    | none => rfl
    | some b => have := h b h'.1; have := h'.2.1; omega
  | some a =>
    cases m' with
    | none => have := h' a h.1; have := h.2.1; omega
    | some b =>
      rcases h.2.2 b h'.1 with h1 | h1
      · rw [h1]
      · rcases h'.2.2 a h.1 with h2 | h2
        · rw [h2]
        · exfalso
          rcases h1 with h1 | ⟨h1, h3⟩ <;> rcases h2 with h2 | ⟨h2, h4⟩
          · omega
          · omega
          · omega
          · exact pre_irr _ _ h3 h4

theorem best_congr {P Q : Sc → Prop} (h : ∀ c, P c ↔ Q c) {m : Option Sc} (hm : Best g P m) : Best g Q m := by
  cases m with
  | none => exact fun c hc => hm c ((h c).2 hc)
  | some b => exact ⟨(h b).1 hm.1, hm.2.1, fun c hc => hm.2.2 c ((h c).2 hc)⟩

theorem bt_of_lt {c d : Sc} (h : g d < g c) : bt g c d := .inl h
theorem bt_trans {c d f : Sc} (h1 : bt g c d) (h2 : bt g d f) : bt g c f := by
  rcases h1 with h1 | ⟨h1, h3⟩ <;> rcases h2 with h2 | ⟨h2, h4⟩
  · left; omega
  · left; omega
  · left; omega
  · exact .inr ⟨by omega, pre_trans h3 h4⟩

/-- One more: taken if it gains 2 and is the first or preferred. -/
theorem best_take {P Q : Sc → Prop} {c : Sc} {o : Option Sc} (h : Best g P o) (hc : 2 ≤ g c) (ho : ∀ m, o = some m → bt g c m) (hQ : ∀ d, Q d ↔ P d ∨ d = c) : Best g Q (some c) := by
  refine ⟨(hQ c).2 (.inr rfl), hc, fun d hd => ?_⟩
  rcases (hQ d).1 hd with hd | hd
  · right
    cases o with
    | none => have := h d hd; exact .inl (by omega)
    | some m =>
      have h1 := ho m rfl
      rcases h.2.2 d hd with h2 | h2
      · rw [h2]; exact h1
      · exact bt_trans g h1 h2
  · exact .inl hd
/-- One more: left, for it gains too little, or is not preferred. -/
theorem best_leave {P Q : Sc → Prop} {c : Sc} {o : Option Sc} (h : Best g P o) (hc : g c < 2 ∨ ∃ m, o = some m ∧ (c = m ∨ bt g m c)) (hQ : ∀ d, Q d ↔ P d ∨ d = c) : Best g Q o := by
  cases o with
  | none =>
    intro d hd
    rcases (hQ d).1 hd with hd | hd
    · exact h d hd
    · subst hd
      rcases hc with hc | ⟨m, hm, _⟩
      · exact hc
      · cases hm
  | some m =>
    refine ⟨(hQ m).2 (.inl h.1), h.2.1, fun d hd => ?_⟩
    rcases (hQ d).1 hd with hd | hd
    · exact h.2.2 d hd
    · subst hd
      rcases hc with hc | ⟨m', hm, hc⟩
      · right; left; have := h.2.1; omega
      · injection hm with hm; subst hm; exact hc

theorem best_none_le {P : Sc → Prop} (h : Best g P none) {c : Sc} (hc : P c) : g c ≤ 1 := by have := h c hc; omega
theorem best_some_le {P : Sc → Prop} {m : Sc} (h : Best g P (some m)) {c : Sc} (hc : P c) : g c ≤ g m := by
  rcases h.2.2 c hc with h1 | h1
  · rw [h1]; omega
  · rcases h1 with h1 | ⟨h1, _⟩ <;> omega
end

/-- The scrolls of n rows. -/
def All (n : Nat) (c : Sc) : Prop := poss n c.t c.e c.k

/-- 'better', as the code asks it. -/
theorem bt_code (g : Sc → Int) (c d : Sc) : bt g c d ↔
    (c ≠ d ∧ (g c ≠ g d ∧ g d < g c ∨ g c = g d ∧ (mag c.k ≠ mag d.k ∧ mag c.k < mag d.k ∨ mag c.k = mag d.k ∧ (c.k ≠ d.k ∧ 0 < c.k ∨ c.k = d.k ∧ (c.t ≠ d.t ∧ c.t < d.t ∨ c.t = d.t ∧ d.e < c.e))))) := by
  by_cases hcd : c = d
  · subst hcd
    simp only [ne_eq, not_true_eq_false, false_and, iff_false]
    rintro (h | ⟨_, h⟩)
    · omega
    · exact pre_ne _ h
  · simp only [ne_eq, hcd, not_false_eq_true, true_and]
    unfold bt pre mag
    generalize g c = x
    generalize g d = y
    split <;> split <;> omega
end V
end Go.Proofs.Ythohninbelhddaa
