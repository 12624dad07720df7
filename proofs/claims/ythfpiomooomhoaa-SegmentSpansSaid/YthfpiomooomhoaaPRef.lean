/-
  The plain mathematics of layer 22: the reference's words. By an AI agent.
-/
import Derived.Test.YthfpiomooomhoaaPCover
namespace Go.Proofs.Ythfpiomooomhoaa
namespace S

/-- The last span's end is moved to e. -/
def ext (e : Nat) : List (Nat × Nat) → List (Nat × Nat)
  | [] => []
  | [x] => [(x.1, e)]
  | x :: y :: l => x :: ext e (y :: l)

theorem ext_cons (e : Nat) (x : Nat × Nat) {l : List (Nat × Nat)} (h : l ≠ []) : ext e (x :: l) = x :: ext e l := by
  cases l with
  | nil => exact absurd rfl h
  | cons y l => rfl
theorem ext_len (e : Nat) : ∀ l : List (Nat × Nat), (ext e l).length = l.length
  | [] => rfl
  | [_] => rfl
  | _ :: y :: l => by rw [ext_cons e _ (by simp), List.length_cons, ext_len e (y :: l)]; rfl

/-- The runs as pairs. -/
def sv' (n : Nat) (tg : Nat → Bool) (k : Nat) : List (Nat × Nat) := (spans n tg k).map (·.1)
theorem sv'_out {n : Nat} {tg : Nat → Bool} {k : Nat} (h : ¬ k < n) : sv' n tg k = [] := by unfold sv'; rw [spans_out h]; rfl
theorem sv'_step {n : Nat} {tg : Nat → Bool} {k : Nat} (h : k < n) : sv' n tg k = (k, runEnd n tg (k + 1)) :: sv' n tg (runEnd n tg (k + 1)) := by unfold sv'; rw [spans_step h]; rfl
theorem sv'_ne {n : Nat} {tg : Nat → Bool} {k : Nat} (h : k < n) : sv' n tg k ≠ [] := by rw [sv'_step h]; simp

theorem runEnd_more (n : Nat) (tg : Nat → Bool) (to : Nat) (hle : to ≤ n) :
    (runEnd n tg to < n ∧ runEnd (n + 1) tg to = runEnd n tg to) ∨ (runEnd n tg to = n ∧ runEnd (n + 1) tg to = if tg n then n + 1 else n) := by
  by_cases h : to < n
  · cases ht : tg to
    · left; rw [runEnd_miss ht, runEnd_miss ht]; exact ⟨h, rfl⟩
    · rw [runEnd_hit h ht, runEnd_hit (by omega) ht]
      exact runEnd_more n tg (to + 1) h
  · have : to = n := by omega
    subst this
    right
    rw [runEnd_out h]
    refine ⟨rfl, ?_⟩
    cases ht : tg to
    · rw [runEnd_miss ht]; simp
    · rw [runEnd_hit (by omega) ht, runEnd_out (by omega)]; simp
termination_by n - to

/-- One glyph more: the last run is longer, or there is one run more. -/
theorem sv'_more (n : Nat) (tg : Nat → Bool) (k : Nat) (hk : k ≤ n) : sv' (n + 1) tg k = if k < n ∧ tg n = true then ext (n + 1) (sv' n tg k) else sv' n tg k ++ [(n, n + 1)] := by
  by_cases h : k < n
  · rw [sv'_step (show k < n + 1 by omega), sv'_step h]
    have hge := runEnd_ge n tg (k + 1)
    have hle := runEnd_le (tg := tg) (show k + 1 ≤ n by omega)
    rcases runEnd_more n tg (k + 1) (by omega) with ⟨h1, h2⟩ | ⟨h1, h2⟩
    · rw [h2, sv'_more n tg (runEnd n tg (k + 1)) hle]
      by_cases ht : tg n = true
      · simp only [h, h1, ht, and_self, if_true]
        rw [ext_cons _ _ (sv'_ne h1)]
      · simp [ht]
    · rw [h2, h1]
      cases ht : tg n
      · simp only [Bool.false_eq_true, if_false, and_false]
        rw [sv'_step (show n < n + 1 by omega), runEnd_out (show ¬ n + 1 < n + 1 by omega), sv'_out (show ¬ n + 1 < n + 1 by omega), sv'_out (show ¬ n < n by omega)]
        rfl
      · simp only [if_true, h, and_self]
        rw [sv'_out (show ¬ n + 1 < n + 1 by omega), sv'_out (show ¬ n < n by omega)]
        rfl
  · have : k = n := by omega
    subst this
    rw [sv'_step (show k < k + 1 by omega), runEnd_out (show ¬ k + 1 < k + 1 by omega), sv'_out (show ¬ k + 1 < k + 1 by omega), sv'_out h]
    simp
termination_by n - k

/-- The kept ones among pairs. -/
def kp (p : Nat → Bool) (l : List (Nat × Nat)) : List (Nat × Nat) := l.filter fun x => !p x.1
theorem kept_kp {n : Nat} (p : Nat → Bool) (xs : List (Sp n)) : kept p xs = kp p (xs.map (·.1)) := by
  induction xs with
  | nil => rfl
  | cons x xs ih =>
    cases h : p x.1.1
    · rw [kept_cons_take h, ih]; simp [kp, h]
    · rw [kept_cons_drop h, ih]; simp [kp, h]

theorem kp_ext (p : Nat → Bool) (e : Nat) : ∀ (l : List (Nat × Nat)) (h : l ≠ []), kp p (ext e l) = if p (l.getLast h).1 then kp p l else ext e (kp p l)
  | [], h => absurd rfl h
  | [x], _ => by cases hp : p x.1 <;> simp [kp, ext, hp]
  | x :: y :: l, _ => by
    have ih := kp_ext p e (y :: l) (by simp)
    rw [ext_cons e x (by simp)]
    have hc : ∀ l', kp p (x :: l') = if p x.1 then kp p l' else x :: kp p l' := fun l' => by cases hp : p x.1 <;> simp [kp, hp]
    have hgl : ∀ h', (x :: y :: l).getLast h' = (y :: l).getLast (by simp) := fun _ => List.getLast_cons_cons
    rw [hc, hc, ih, hgl]
    obtain ⟨g, hg⟩ : ∃ g, (y :: l).getLast (by simp) = g := ⟨_, rfl⟩
    have hgm : g ∈ y :: l := hg ▸ List.getLast_mem _
    rw [hg]
    by_cases hl : p g.1 = true
    · simp [hl]
    · have hne : kp p (y :: l) ≠ [] := by
        intro h0
        have hm : g ∈ kp p (y :: l) := by
          unfold kp
          rw [List.mem_filter]
          exact ⟨hgm, by simpa using hl⟩
        rw [h0] at hm
        simp at hm
      simp only [hl, Bool.false_eq_true, if_false]
      cases hp : p x.1
      · simp only [Bool.false_eq_true, if_false]; rw [ext_cons e x hne]
      · simp

theorem last_p {n : Nat} {tg p : Nat → Bool} (hp : ∀ j, tg j = true → p j = p (j - 1)) (k : Nat) (hk : k < n) (h : sv' n tg k ≠ []) : p ((sv' n tg k).getLast h).1 = p (n - 1) := by
  have hge := runEnd_ge n tg (k + 1)
  have hle := runEnd_le (tg := tg) (show k + 1 ≤ n by omega)
  have hs := sv'_step (tg := tg) hk
  by_cases he : runEnd n tg (k + 1) < n
  · have ih := last_p hp (runEnd n tg (k + 1)) he (sv'_ne he)
    have : (sv' n tg k).getLast h = (sv' n tg (runEnd n tg (k + 1))).getLast (sv'_ne he) := by
      simp only [hs]
      rw [List.getLast_cons (sv'_ne he)]
    rw [this, ih]
  · have h0 : sv' n tg (runEnd n tg (k + 1)) = [] := sv'_out he
    have : (sv' n tg k).getLast h = (k, runEnd n tg (k + 1)) := by
      simp only [hs, h0, List.getLast_singleton]
    rw [this]
    exact (run_p (n := n) (tg := tg) hp (k := k) (n - 1) (by omega) (by omega)).symm
termination_by n - k

/-- One round of the reference's Words. -/
def rstep (gs : List G) (out : List (Nat × Nat)) (i : Nat) : List (Nat × Nat) :=
  if kd gs i = 0 then out else if 0 < i ∧ kd gs (i - 1) = kd gs i then ext (i + 1) out else out ++ [(i, i + 1)]
def rwords (gs : List G) (k : Nat) : List (Nat × Nat) := (List.range k).foldl (rstep gs) []
theorem rwords_succ (gs : List G) (k : Nat) : rwords gs (k + 1) = rstep gs (rwords gs k) k := by
  unfold rwords; rw [List.range_succ, List.foldl_append]; rfl

theorem rwords_eq (gs : List G) : ∀ k, rwords gs k = kp (fun i => kd gs i == 0) (sv' k (tgW gs) 0)
  | 0 => by rw [sv'_out (by omega)]; rfl
  | k + 1 => by
    rw [rwords_succ, rwords_eq gs k, sv'_more k (tgW gs) 0 (Nat.zero_le _)]
    have hp : ∀ j, tgW gs j = true → (kd gs j == 0) = (kd gs (j - 1) == 0) := fun j hj => by simp only [tgW, beq_iff_eq] at hj; rw [hj]
    by_cases ht : 0 < k ∧ tgW gs k = true
    · rw [if_pos ht, kp_ext _ _ _ (sv'_ne ht.1), last_p hp 0 ht.1 (sv'_ne ht.1), ← hp k ht.2]
      have e : kd gs k = kd gs (k - 1) := by have := ht.2; simpa [tgW] using this
      unfold rstep
      by_cases h0 : kd gs k = 0
      · simp [h0]
      · simp [h0, ht.1, e.symm]
    · rw [if_neg ht]
      have hkp : ∀ l l' : List (Nat × Nat), kp (fun i => kd gs i == 0) (l ++ l') = kp (fun i => kd gs i == 0) l ++ kp (fun i => kd gs i == 0) l' := fun l l' => by unfold kp; rw [List.filter_append]
      rw [hkp]
      unfold rstep
      by_cases h0 : kd gs k = 0
      · simp [h0, kp]
      · have hc : ¬ (0 < k ∧ kd gs (k - 1) = kd gs k) := fun h => ht ⟨h.1, by simp [tgW, h.2]⟩
        simp [h0, hc, kp]

theorem words_ref (gs : List G) : rwords gs gs.length = words gs := by
  rw [rwords_eq, words_kept, kept_kp]
  rfl
end S
end Go.Proofs.Ythfpiomooomhoaa
