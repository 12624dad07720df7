/-
  The plain mathematics of layer 43 (durations): no program in sight. By an AI agent.
-/
namespace Go.Proofs.Ytfcanmicjpjjoaa
namespace D

def lim (r : Int) : Int := if r < 25 then 25 else if 400 < r then 400 else r
/-- The time of a word of n bytes. -/
def word (n : Nat) (r : Int) : Int := (((n : Int) + 2) * 4000 + lim r - 1) / lim r
/-- The time of words of these lengths. -/
def words (l : List Nat) (r : Int) : Int := (l.map fun n => word n r).sum

theorem lim_bd (r : Int) : 25 ≤ lim r ∧ lim r ≤ 400 := by
  unfold lim; split
  · omega
  · split <;> omega

theorem word_bd (n : Nat) (r : Int) (h : n ≤ 100) : 20 ≤ word n r ∧ word n r ≤ 16320 := by
  have hl := lim_bd r
  unfold word
  generalize lim r = c at *
  constructor
  · rw [Int.le_ediv_iff_mul_le (by omega)]; omega
  · rw [Int.ediv_le_iff_le_mul (by omega)]; omega

theorem words_bd (l : List Nat) (r : Int) (h : ∀ n ∈ l, n ≤ 100) : 0 ≤ words l r ∧ words l r ≤ 16320 * l.length := by
  induction l with
  | nil => simp [words]
  | cons x l ih =>
    have h1 := word_bd x r (h x (by simp))
    have h2 := ih (fun n hn => h n (by simp [hn]))
    simp only [words, List.map_cons, List.sum_cons, List.length_cons] at *
    omega

theorem words_append (a b : List Nat) (r : Int) : words (a ++ b) r = words a r + words b r := by
  simp [words]

end D
end Go.Proofs.Ytfcanmicjpjjoaa
