/-
  The plain mathematics of layer 18: the scrolls that Find has looked at. By an AI agent.
-/
import Derived.Test.YthohninbelhddaaPlain2
namespace Go.Proofs.Ythohninbelhddaa
namespace V
def PO (n : Nat) (k : Int) (c : Sc) : Prop := All n c ∧ c.k < k
def PM (n : Nat) (k t : Int) (c : Sc) : Prop := All n c ∧ (c.k < k ∨ c.k = k ∧ c.t < t)
def PI (n : Nat) (k t e : Int) (c : Sc) : Prop := All n c ∧ (c.k < k ∨ c.k = k ∧ (c.t < t ∨ c.t = t ∧ c.e < e))
theorem po_start (n : Nat) (c : Sc) : False ↔ PO n (1 - n) c := by
  unfold PO All poss
  constructor
  · intro h; cases h
  · intro h; omega
theorem pm_start (n : Nat) (k : Int) (c : Sc) : PO n k c ↔ PM n k 0 c := by unfold PO PM All poss; omega
theorem pi_start (n : Nat) (k t m : Int) (hm : m = mag k) (c : Sc) : PM n k t c ↔ PI n k t (t + m + 1) c := by
  subst hm
  unfold PM PI All poss mag
  split <;> omega
theorem pi_end (n : Nat) (k t e : Int) (he : (n : Int) < e) (c : Sc) : PI n k t e c ↔ PM n k (t + 1) c := by unfold PM PI All poss; omega
theorem pi_zero (n : Nat) (t e : Int) (c : Sc) : PI n 0 t e c ↔ PM n 0 (t + 1) c := by unfold PM PI All poss; omega
theorem pm_end (n : Nat) (k : Int) (c : Sc) : PM n k n c ↔ PO n (k + 1) c := by unfold PM PO All poss; omega
theorem po_end (n : Nat) (c : Sc) : PO n n c ↔ All n c := by unfold PO All poss; omega
theorem pi_step (n : Nat) (k t e : Int) (h : All n ⟨t, e, k⟩) (d : Sc) : PI n k t (e + 1) d ↔ PI n k t e d ∨ d = ⟨t, e, k⟩ := by
  obtain ⟨t', e', k'⟩ := d
  unfold PI All poss at *
  simp only [Sc.mk.injEq] at *
  omega

theorem po_end' (n : Nat) (k : Int) (h : (n : Int) ≤ k) (c : Sc) : PO n k c ↔ All n c := by unfold PO All poss; omega
theorem bt_total (g : Sc → Int) (c d : Sc) (h : ¬ bt g c d) : c = d ∨ bt g d c := by
  unfold bt at *
  rcases pre_tri c d with e | e | e
  · exact .inl e
  · right
    rcases Int.lt_trichotomy (g c) (g d) with h1 | h1 | h1
    · exact .inl h1
    · exact absurd (.inr ⟨h1.symm, e⟩) h
    · exact absurd (.inl h1) h
  · right
    rcases Int.lt_trichotomy (g c) (g d) with h1 | h1 | h1
    · exact .inl h1
    · exact .inr ⟨h1, e⟩
    · exact absurd (.inl h1) h
/-- What the variable 'best' holds. -/
def bg (g : Sc → Int) : Option Sc → Int
  | none => 0
  | some m => g m
def bs : Option Sc → Sc
  | none => ⟨0, 0, 0⟩
  | some m => m
theorem best_bound {n : Nat} {g : Sc → Int} {P : Sc → Prop} {o : Option Sc} (h : Best g P o) (hP : ∀ c, P c → All n c) : -(n : Int) ≤ (bs o).k ∧ (bs o).k ≤ n := by
  cases o with
  | none => simp [bs]
  | some m => have := hP m h.1; unfold All poss at this; simp only [bs]; omega
end V
end Go.Proofs.Ythohninbelhddaa
