/-
  The plain mathematics of layer 43 (durations): no program in sight. By an AI agent.
-/
namespace Go.Proofs.Ytfjkelngdljikaa
namespace D

def lim (r : Int) : Int := if r < 25 then 25 else if 400 < r then 400 else r
/-- The time of a word of n bytes. -/
def word (n : Nat) (r : Int) : Int := (((n : Int) + 2) * 4000 + lim r - 1) / lim r
/-- The time of words of these lengths. -/
def words (l : List Nat) (r : Int) : Int := (l.map fun n => word n r).sum

theorem lim_bd (r : Int) : 25 ≤ lim r ∧ lim r ≤ 400 := by
  unfold lim; split
  · omega
  · split <;> omega

theorem word_bd (n : Nat) (r : Int) (h : n ≤ 100) : 20 ≤ word n r ∧ word n r ≤ 16320 := by
  have hl := lim_bd r
  unfold word
  generalize lim r = c at *
  constructor
  · rw [Int.le_ediv_iff_mul_le (by omega)]; omega
  · rw [Int.ediv_le_iff_le_mul (by omega)]; omega

theorem words_bd (l : List Nat) (r : Int) (h : ∀ n ∈ l, n ≤ 100) : 0 ≤ words l r ∧ words l r ≤ 16320 * l.length := by
  induction l with
  | nil => simp [words]
  | cons x l ih =>
    have h1 := word_bd x r (h x (by simp))
    have h2 := ih (fun n hn => h n (by simp [hn]))
    simp only [words, List.map_cons, List.sum_cons, List.length_cons] at *
    omega

theorem words_append (a b : List Nat) (r : Int) : words (a ++ b) r = words a r + words b r := by
  simp [words]

theorem word_lt (n : Nat) (r : Int) (k : Int) : k < word n r ↔ k * lim r < ((n : Int) + 2) * 4000 := by
  have hl := lim_bd r
  unfold word
  generalize lim r = c at *
  generalize ((n : Int) + 2) * 4000 = m
  have h : k + 1 ≤ (m + c - 1) / c ↔ (k + 1) * c ≤ m + c - 1 := Int.le_ediv_iff_mul_le (by omega)
  rw [Int.add_mul, Int.one_mul] at h
  omega

theorem lim_mono {r r' : Int} (h : r ≤ r') : lim r ≤ lim r' := by
  unfold lim; (repeat' split) <;> omega

theorem word_slower (n : Nat) {r r' : Int} (hn : n ≤ 100) (h : r ≤ r') : word n r' ≤ word n r := by
  have hb := word_bd n r' hn
  have h1 := (word_lt n r' (word n r' - 1)).1 (by omega)
  have h2 : (word n r' - 1) * lim r ≤ (word n r' - 1) * lim r' := Int.mul_le_mul_of_nonneg_left (lim_mono h) (by omega)
  have h3 := (word_lt n r (word n r' - 1)).2 (by omega)
  omega

theorem word_longer (n m : Nat) (r : Int) (h : n < m) : word n r < word m r := by
  have h1 := (word_lt n r (word n r - 1)).1 (by omega)
  rw [Int.sub_mul, Int.one_mul] at h1
  exact (word_lt m r (word n r)).2 (by have := lim_bd r; omega)

theorem lim_self {r : Int} (h : 25 ≤ r) (h' : r ≤ 400) : lim r = r := by
  unfold lim; rw [if_neg (by omega), if_neg (by omega)]

theorem word_half (n : Nat) (r : Int) (h : 25 ≤ r) (h' : r ≤ 200) : 2 * word n (2 * r) - 1 ≤ word n r ∧ word n r ≤ 2 * word n (2 * r) := by
  have e1 := fun k => word_lt n r k
  have e2 := fun k => word_lt n (2 * r) k
  rw [lim_self (by omega) (by omega)] at e1 e2
  generalize word n r = y at *
  generalize word n (2 * r) = x at *
  generalize ((n : Int) + 2) * 4000 = m at *
  constructor
  · have h1 := (e2 (x - 1)).1 (by omega)
    have h2 : (x - 1) * (2 * r) = (2 * x - 2) * r := by rw [← Int.mul_assoc]; congr 1; omega
    have h3 := (e1 (2 * x - 2)).2 (by omega)
    omega
  · have h1 : ¬ x < x := by omega
    rw [e2 x] at h1
    have h2 : x * (2 * r) = (2 * x) * r := by rw [← Int.mul_assoc]; congr 1; omega
    have h3 : ¬ 2 * x < y := by rw [e1]; omega
    omega

end D
end Go.Proofs.Ytfjkelngdljikaa
