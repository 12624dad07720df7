/-
  The plain mathematics of layer 18: the scrolls that the reference's Find has looked at. By an AI agent.
-/
import Derived.Test.YthohninbelhddaaPFind
namespace Go.Proofs.Ythohninbelhddaa
namespace V
/-- Looked at ahead of c. -/
def PB (n : Nat) (k t e : Int) (c : Sc) : Prop := All n c ∧ pre c ⟨t, e, k⟩
theorem pb_start (n : Nat) (c : Sc) : False ↔ PB n 1 0 n c := by
  constructor
  · intro h; cases h
  · rintro ⟨h1, h2⟩
    have h3 : mag 1 = 1 := rfl
    unfold All poss at h1
    unfold pre at h2
    simp only [h3] at h2
    unfold mag at h2
    split at h2 <;> omega
theorem pb_step (n : Nat) (k t e : Int) (h : All n ⟨t, e, k⟩) (d : Sc) : PB n k t (e - 1) d ↔ PB n k t e d ∨ d = ⟨t, e, k⟩ := by
  obtain ⟨t', e', k'⟩ := d
  unfold PB pre All poss at *
  simp only [Sc.mk.injEq] at *
  generalize hx : mag k = x at *
  generalize hy : mag k' = y at *
  constructor
  · rintro ⟨h1, h2⟩
    by_cases h3 : t' = t ∧ e' = e ∧ k' = k
    · exact .inr h3
    · exact .inl ⟨h1, by omega⟩
  · rintro (⟨h1, h2⟩ | ⟨rfl, rfl, rfl⟩)
    · exact ⟨h1, by omega⟩
    · have : x = y := hx.symm.trans hy
      exact ⟨h, by omega⟩
theorem pb_skip (n : Nat) (k t e : Int) (h : ¬ All n ⟨t, e, k⟩) (d : Sc) : PB n k t e d ↔ PB n k t (e - 1) d := by
  obtain ⟨t', e', k'⟩ := d
  unfold PB pre All at *
  simp only at *
  constructor
  · rintro ⟨h1, h2⟩; exact ⟨h1, by omega⟩
  · rintro ⟨h1, h2⟩
    refine ⟨h1, ?_⟩
    by_cases h3 : t' = t ∧ e' = e ∧ k' = k
    · obtain ⟨rfl, rfl, rfl⟩ := h3; exact absurd h1 h
    · omega
theorem pb_bottom (n : Nat) (k t : Int) (d : Sc) : PB n k t t d ↔ PB n k (t + 1) n d := by
  obtain ⟨t', e', k'⟩ := d
  unfold PB pre All poss
  simp only
  generalize mag k = x
  generalize mag k' = y
  omega
theorem pb_sign (n : Nat) (s : Int) (hs : 0 < s) (d : Sc) : PB n s n n d ↔ PB n (-s) 0 n d := by
  obtain ⟨t', e', k'⟩ := d
  unfold PB pre mag All poss
  simp only
  split <;> split <;> omega
theorem pb_size (n : Nat) (s : Int) (hs : 0 < s) (d : Sc) : PB n (-s) n n d ↔ PB n (s + 1) 0 n d := by
  obtain ⟨t', e', k'⟩ := d
  unfold PB pre mag All poss
  simp only
  split <;> split <;> omega
theorem pb_end (n : Nat) (s : Int) (hs : 0 < s) (hn : (n : Int) ≤ s) (d : Sc) : PB n s 0 n d ↔ All n d := by
  obtain ⟨t', e', k'⟩ := d
  unfold PB pre mag All poss
  simp only
  split <;> omega
/-- What the variable 'most' holds. -/
def bm (g : Sc → Int) : Option Sc → Int
  | none => 1
  | some m => g m
theorem pb_take {g : Sc → Int} {n : Nat} {k t e : Int} {o : Option Sc} (h : Best g (PB n k t e) o) (ha : All n ⟨t, e, k⟩) (hg : bm g o < g ⟨t, e, k⟩) : Best g (PB n k t (e - 1)) (some ⟨t, e, k⟩) := by
  refine best_take g h ?_ ?_ (pb_step n k t e ha)
  · cases o with
    | none => simp only [bm] at hg; omega
    | some m => simp only [bm] at hg; have := h.2.1; omega
  · intro m hm
    subst hm
    exact .inl hg
theorem pb_leave {g : Sc → Int} {n : Nat} {k t e : Int} {o : Option Sc} (h : Best g (PB n k t e) o) (ha : All n ⟨t, e, k⟩) (hg : ¬ bm g o < g ⟨t, e, k⟩) : Best g (PB n k t (e - 1)) o := by
  refine best_leave g h ?_ (pb_step n k t e ha)
  cases o with
  | none => simp only [bm] at hg; left; omega
  | some m =>
    right
    refine ⟨m, rfl, .inr ?_⟩
    simp only [bm] at hg
    by_cases he : g ⟨t, e, k⟩ = g m
    · exact .inr ⟨he, h.1.2⟩
    · exact .inl (by omega)
theorem pb_pass {g : Sc → Int} {n : Nat} {k t e : Int} {o : Option Sc} (h : Best g (PB n k t e) o) (ha : ¬ All n ⟨t, e, k⟩) : Best g (PB n k t (e - 1)) o := best_congr g (pb_skip n k t e ha) h
instance (n : Nat) (c : Sc) : Decidable (All n c) := by unfold All; infer_instance
/-- What is asked of the round: the gain is that of the scroll if it is possible, and 0 otherwise. -/
def gz (n : Nat) (g : Sc → Int) (c : Sc) : Int := if All n c then g c else 0
theorem bm_pos {g : Sc → Int} {P : Sc → Prop} {o : Option Sc} (h : Best g P o) : 1 ≤ bm g o := by
  cases o with
  | none => simp [bm]
  | some m => have := h.2.1; simp only [bm]; omega
end V
end Go.Proofs.Ythohninbelhddaa
