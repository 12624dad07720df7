/-
  The plain mathematics of layer 22: runs, words, fields. By an AI agent.
-/
import Derived.Test.YthfpiomooomhoaaPlain
namespace Go.Proofs.Ythfpiomooomhoaa
namespace S

/-- Where the run ends, by fuel. -/
def runEndF (tg : Nat → Bool) : Nat → Nat → Nat
  | 0, to => to
  | f + 1, to => if tg to then runEndF tg f (to + 1) else to

/-- Where the run that begins before `to` ends. -/
def runEnd (n : Nat) (tg : Nat → Bool) (to : Nat) : Nat := runEndF tg (n - to) to

theorem runEnd_hit {n : Nat} {tg : Nat → Bool} {to : Nat} (h : to < n) (ht : tg to = true) : runEnd n tg to = runEnd n tg (to + 1) := by
  have : n - to = (n - (to + 1)) + 1 := by omega
  unfold runEnd
  rw [this]
  simp [runEndF, ht]
theorem runEnd_miss {n : Nat} {tg : Nat → Bool} {to : Nat} (ht : tg to = false) : runEnd n tg to = to := by
  unfold runEnd
  cases n - to <;> simp [runEndF, ht]
theorem runEnd_out {n : Nat} {tg : Nat → Bool} {to : Nat} (h : ¬ to < n) : runEnd n tg to = to := by
  have : n - to = 0 := by omega
  unfold runEnd
  rw [this]
  rfl

theorem runEnd_ge (n : Nat) (tg : Nat → Bool) (to : Nat) : to ≤ runEnd n tg to := by
  by_cases h : to < n
  · cases ht : tg to
    · rw [runEnd_miss ht]; exact Nat.le_refl _
    · rw [runEnd_hit h ht]
      have := runEnd_ge n tg (to + 1)
      omega
  · rw [runEnd_out h]; exact Nat.le_refl _
termination_by n - to

theorem runEnd_le {n : Nat} {tg : Nat → Bool} {to : Nat} (hle : to ≤ n) : runEnd n tg to ≤ n := by
  by_cases h : to < n
  · cases ht : tg to
    · rw [runEnd_miss ht]; omega
    · rw [runEnd_hit h ht]
      exact runEnd_le h
  · rw [runEnd_out h]; omega
termination_by n - to

/-- In the run all go together. -/
theorem runEnd_all (n : Nat) (tg : Nat → Bool) (to : Nat) : ∀ i, to ≤ i → i < runEnd n tg to → tg i = true := by
  intro i h1 h2
  by_cases h : to < n
  · cases ht : tg to
    · rw [runEnd_miss ht] at h2; omega
    · rw [runEnd_hit h ht] at h2
      by_cases e : i = to
      · rw [e, ht]
      · exact runEnd_all n tg (to + 1) i (by omega) h2
  · rw [runEnd_out h] at h2; omega
termination_by n - to

/-- Behind the run is the end or a glyph that goes not together. -/
theorem runEnd_end {n : Nat} {tg : Nat → Bool} {to : Nat} (hle : to ≤ n) : runEnd n tg to = n ∨ tg (runEnd n tg to) = false := by
  by_cases h : to < n
  · cases ht : tg to
    · rw [runEnd_miss ht]; exact .inr ht
    · rw [runEnd_hit h ht]
      exact runEnd_end h
  · rw [runEnd_out h]; exact .inl (by omega)
termination_by n - to

/-- A span of a row of n glyphs. -/
abbrev Sp (n : Nat) : Type := { x : Nat × Nat // x.1 < x.2 ∧ x.2 ≤ n }

def spansF (n : Nat) (tg : Nat → Bool) : Nat → Nat → List (Sp n)
  | 0, _ => []
  | f + 1, k =>
    if h : k < n then ⟨(k, runEnd n tg (k + 1)), runEnd_ge n tg (k + 1), runEnd_le h⟩ :: spansF n tg f (runEnd n tg (k + 1))
    else []

theorem spansF_fuel (n : Nat) (tg : Nat → Bool) : ∀ (f f' k : Nat), n - k ≤ f → n - k ≤ f' → spansF n tg f k = spansF n tg f' k
  | 0, 0, _, _, _ => rfl
  | 0, f' + 1, k, h, _ => by
    have : ¬ k < n := by omega
    simp [spansF, this]
  | f + 1, 0, k, _, h => by
    have : ¬ k < n := by omega
    simp [spansF, this]
  | f + 1, f' + 1, k, h, h' => by
    unfold spansF
    by_cases hk : k < n
    · have := runEnd_ge n tg (k + 1)
      simp only [hk, dite_true]
      rw [spansF_fuel n tg f f' _ (by omega) (by omega)]
    · simp only [hk, dite_false]

/-- The runs from k on. -/
def spans (n : Nat) (tg : Nat → Bool) (k : Nat) : List (Sp n) := spansF n tg (n - k) k

theorem spans_out {n : Nat} {tg : Nat → Bool} {k : Nat} (h : ¬ k < n) : spans n tg k = [] := by
  have : n - k = 0 := by omega
  unfold spans
  rw [this]
  rfl

theorem spans_step {n : Nat} {tg : Nat → Bool} {k : Nat} (h : k < n) : spans n tg k = ⟨(k, runEnd n tg (k + 1)), runEnd_ge n tg (k + 1), runEnd_le h⟩ :: spans n tg (runEnd n tg (k + 1)) := by
  have : n - k = (n - k - 1) + 1 := by omega
  have h2 := runEnd_ge n tg (k + 1)
  have e : spansF n tg (n - k - 1 + 1) k = ⟨(k, runEnd n tg (k + 1)), runEnd_ge n tg (k + 1), runEnd_le h⟩ :: spansF n tg (n - k - 1) (runEnd n tg (k + 1)) := by
    unfold spansF
    simp only [h, dite_true]
    cases n - k - 1 <;> rfl
  show spansF n tg (n - k) k = _
  rw [this, e, spansF_fuel n tg (n - k - 1) (n - runEnd n tg (k + 1)) _ (by omega) (by omega)]
  rfl

theorem spans_length (n : Nat) (tg : Nat → Bool) (k : Nat) : (spans n tg k).length ≤ n - k := by
  by_cases h : k < n
  · rw [spans_step h, List.length_cons]
    have h1 := runEnd_ge n tg (k + 1)
    have := spans_length n tg (runEnd n tg (k + 1))
    have := runEnd_le (tg := tg) (Nat.succ_le_of_lt h)
    omega
  · rw [spans_out h]; simp
termination_by n - k

/-- The kind of glyph i. -/
def kd (gs : List G) (i : Nat) : Nat := kind (gs.getD i default).t

def tgW (gs : List G) (i : Nat) : Bool := kd gs i == kd gs (i - 1)

/-- The words. -/
def words (gs : List G) : List (Nat × Nat) := (spans gs.length (tgW gs) 0).filterMap fun x => if kd gs x.1.1 = 0 then none else some x.1

def gap (gs : List G) (i : Nat) : Bool := kd gs i == 0 && (i == 0 || i + 1 == gs.length || kd gs (i - 1) == 0 || kd gs (i + 1) == 0)

def tgF (gs : List G) (i : Nat) : Bool := gap gs i == gap gs (i - 1)

/-- The fields. -/
def fields (gs : List G) : List (Nat × Nat) := (spans gs.length (tgF gs) 0).filterMap fun x => if gap gs x.1.1 then none else some x.1
/-- The row of an ASCII text. -/
def rowOf (s : ByteArray) : List G := (List.range s.size).map fun i => ⟨s.extract i (i + 1), false, 0⟩

def awakeRow : List G := rowOf { data := #[99, 112, 32, 97, 46, 116, 120, 116, 32, 32, 98] }
theorem awake_words : words awakeRow = [(0, 2), (3, 4), (4, 5), (5, 8), (10, 11)] := by decide
theorem awake_fields : fields awakeRow = [(0, 8), (10, 11)] := by decide
end S

/-- A span's cells. -/
def S.sc (x : Nat × Nat) : List Value := [.int .i64 x.1, .int .i64 x.2]
end Go.Proofs.Ythfpiomooomhoaa
