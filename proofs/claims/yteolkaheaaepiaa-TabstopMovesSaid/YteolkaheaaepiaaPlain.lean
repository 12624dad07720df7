/-
  The plain mathematics of layer 9 (tab stops): no program in sight. By an AI agent.
-/
namespace Go.Proofs.Yteolkaheaaepiaa
namespace T

/-- The next tab stop behind a column, or the last column. -/
def nxt (l : List Bool) (c : Int) : Nat := ((List.range l.length).find? fun (i : Nat) => decide (c < (i : Int)) && l.getD i false).getD (l.length - 1)

theorem nxt_hit {l : List Bool} {c : Int} {k : Nat} (hk : k < l.length) (hc : c < (k : Int)) (hb : l[k]? = some true) (hp : ∀ j : Nat, j < k → c < (j : Int) → l[j]? = some false) : nxt l c = k := by
  unfold nxt
  have : ((List.range l.length).find? fun (i : Nat) => decide (c < (i : Int)) && l.getD i false) = some k := by
    rw [List.find?_range_eq_some]
    refine ⟨by simp [hc, List.getD_eq_getElem?_getD, hb], List.mem_range.2 hk, fun j hj => ?_⟩
    by_cases h : c < (j : Int)
    · simp [h, List.getD_eq_getElem?_getD, hp j hj h]
    · simp [h]
  rw [this]; rfl

theorem nxt_miss {l : List Bool} {c : Int} (hp : ∀ j : Nat, j < l.length → c < (j : Int) → l[j]? = some false) : nxt l c = l.length - 1 := by
  unfold nxt
  have : ((List.range l.length).find? fun (i : Nat) => decide (c < (i : Int)) && l.getD i false) = none := by
    rw [List.find?_range_eq_none]
    intro j hj
    by_cases h : c < (j : Int)
    · simp [h, List.getD_eq_getElem?_getD, hp j hj h]
    · simp [h]
  rw [this]; rfl

theorem nxt_cases (l : List Bool) (c : Int) :
    (nxt l c < l.length ∧ c < (nxt l c : Int) ∧ l[nxt l c]? = some true ∧ ∀ j : Nat, j < nxt l c → c < (j : Int) → l[j]? = some false) ∨
    (nxt l c = l.length - 1 ∧ ∀ j : Nat, j < l.length → c < (j : Int) → l[j]? = some false) := by
  cases h : ((List.range l.length).find? fun (i : Nat) => decide (c < (i : Int)) && l.getD i false) with
  | some k =>
    have e : nxt l c = k := by unfold nxt; rw [h]; rfl
    rw [List.find?_range_eq_some] at h
    obtain ⟨h1, h2, h3⟩ := h
    have h2 := List.mem_range.1 h2
    simp only [Bool.and_eq_true, decide_eq_true_eq] at h1
    refine .inl ⟨by omega, by rw [e]; exact h1.1, ?_, fun j hj hc => ?_⟩
    · rw [e, List.getElem?_eq_getElem h2]
      have := h1.2
      simpa [List.getD_eq_getElem?_getD, List.getElem?_eq_getElem h2] using this
    · have hjl : j < l.length := by omega
      have := h3 j (by omega)
      simpa [hc, List.getD_eq_getElem?_getD, List.getElem?_eq_getElem hjl] using this
  | none =>
    have e : nxt l c = l.length - 1 := by unfold nxt; rw [h]; rfl
    rw [List.find?_range_eq_none] at h
    refine .inr ⟨e, fun j hj hc => ?_⟩
    have := h j hj
    simpa [hc, List.getD_eq_getElem?_getD, List.getElem?_eq_getElem hj] using this

/-- The last tab stop before place k, or 0. -/
def pv (l : List Bool) : Nat → Nat
  | 0 => 0
  | k + 1 => if l.getD k false then k else pv l k

theorem pv_le (l : List Bool) (k : Nat) : pv l k ≤ k - 1 := by
  induction k with
  | zero => simp [pv]
  | succ k ih => simp only [pv]; split <;> omega

theorem pv_over (l : List Bool) (k : Nat) (h : l.length ≤ k) : pv l k = pv l l.length := by
  induction k with
  | zero => have : l.length = 0 := by omega
            rw [this]
  | succ k ih =>
    by_cases hk : l.length = k + 1
    · rw [hk]
    · simp only [pv]
      have : l.getD k false = false := by rw [List.getD_eq_getElem?_getD, List.getElem?_eq_none (by omega)]; rfl
      rw [this]; exact ih (by omega)

theorem pv_cases (l : List Bool) (k : Nat) (hk : k ≤ l.length) :
    (l[pv l k]? = some true ∧ pv l k < k ∨ pv l k = 0) ∧ ∀ j : Nat, pv l k < j → j < k → l[j]? = some false := by
  induction k with
  | zero => exact ⟨.inr rfl, fun j _ h => absurd h (by omega)⟩
  | succ k ih =>
    obtain ⟨h1, h2⟩ := ih (by omega)
    have hkl : k < l.length := by omega
    have e : l.getD k false = l[k] := by simp [List.getD_eq_getElem?_getD, List.getElem?_eq_getElem hkl]
    simp only [pv, e]
    cases hb : l[k] with
    | true =>
      simp only [if_true]
      exact ⟨.inl ⟨by rw [List.getElem?_eq_getElem hkl, hb], by omega⟩, fun j ha hc => absurd hc (by omega)⟩
    | false =>
      simp only [Bool.false_eq_true, if_false]
      refine ⟨h1.imp (fun ⟨x, y⟩ => ⟨x, by omega⟩) id, fun j ha hc => ?_⟩
      by_cases hj : j = k
      · subst hj; rw [List.getElem?_eq_getElem hkl, hb]
      · exact h2 j ha (by omega)

theorem pv_skip (l : List Bool) {k m : Nat} (h : k ≤ m) (hf : ∀ j : Nat, k ≤ j → j < m → l.getD j false = false) : pv l m = pv l k := by
  induction m with
  | zero => have : k = 0 := by omega
            rw [this]
  | succ m ih =>
    by_cases hk : k = m + 1
    · rw [hk]
    · simp only [pv]
      rw [hf m (by omega) (by omega)]
      exact ih (by omega) (fun j a b => hf j a (by omega))

/-- A width within its bounds. -/
def lim (w : Int) : Nat := (max 0 (min w 1000)).toNat
theorem lim_le (w : Int) : lim w ≤ 1000 := by unfold lim; omega

def new (w : Int) : List Bool := (List.range (lim w)).map fun i => i % 8 == 0
def resize (l : List Bool) (w : Int) : List Bool := (List.range (lim w)).map fun i => l.getD i (i % 8 == 0)
def set (l : List Bool) (c : Int) (on : Bool) : List Bool := if 0 ≤ c ∧ c < l.length then l.set c.toNat on else l

theorem resize_nil (w : Int) : resize [] w = new w := by simp [resize, new]
theorem length_set (l : List Bool) (c : Int) (on : Bool) : (set l c on).length = l.length := by unfold set; split <;> simp
end T
end Go.Proofs.Yteolkaheaaepiaa
