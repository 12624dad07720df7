/-
  The plain mathematics of IdentityKeeps: regions in another order keep their numbers. By an AI agent.
-/
import Derived.Test.YtoemhphgnpedmaaGn
namespace Go.Proofs.Ytoemhphgnpedmaa
namespace I

def rot (od : List Rg) (k : Nat) : List Rg := od.drop k ++ od.take k
def zeroed (l : List Rg) : List Rg := l.map fun r => { r with id := 0 }
def sg (n k i : Nat) : Nat := if k + i < n then k + i else k + i - n
theorem rot_length {od : List Rg} {k : Nat} (hk : k ≤ od.length) : (rot od k).length = od.length := by simp [rot]; omega
theorem zeroed_length (l : List Rg) : (zeroed l).length = l.length := by simp [zeroed]
theorem sg_lt {n k i : Nat} (hk : k < n) (hi : i < n) : sg n k i < n := by unfold sg; split <;> omega
theorem sg_inj {n k i j : Nat} (hk : k < n) (hi : i < n) (hj : j < n) (h : sg n k i = sg n k j) : i = j := by unfold sg at h; split at h <;> split at h <;> omega
theorem rot_get {od : List Rg} {k i : Nat} (hk : k < od.length) (hi : i < od.length) : (rot od k).getD i default = od.getD (sg od.length k i) default := by
  unfold rot sg
  by_cases h : k + i < od.length
  · rw [if_pos h, List.getD, List.getD, List.getElem?_append_left (by simp; omega), List.getElem?_drop]
  · rw [if_neg h, List.getD, List.getD, List.getElem?_append_right (by simp; omega), List.getElem?_take, List.length_drop, if_pos (by omega), show i - (od.length - k) = k + i - od.length by omega]
theorem zeroed_get {l : List Rg} {i : Nat} (hi : i < l.length) : (zeroed l).getD i default = { l.getD i default with id := 0 } := by
  simp [zeroed, List.getD, hi]
theorem like_zero (r s : Rg) : like { r with id := 0 } s = like r s := rfl

/-- Proper regions of which no two are alike. -/
structure Apart (od : List Rg) : Prop where
  pr : ∀ i, i < od.length → proper (od.getD i default) = true
  un : ∀ i k, i < od.length → k < i → like (od.getD i default) (od.getD k default) < 300

theorem sum_nonneg : ∀ {l : List Int}, (∀ x ∈ l, 0 ≤ x) → 0 ≤ l.sum
  | [], _ => by simp
  | x :: l, h => by
    have := sum_nonneg (l := l) fun y hy => h y (List.mem_cons_of_mem _ hy)
    have := h x List.mem_cons_self
    simp only [List.sum_cons]; omega
theorem sum_zero : ∀ {l : List Int}, (∀ x ∈ l, 0 ≤ x) → l.sum ≤ 0 → ∀ x ∈ l, x = 0
  | [], _, _ => by simp
  | y :: l, h, hs => by
    have h1 := sum_nonneg (l := l) fun y hy => h y (List.mem_cons_of_mem _ hy)
    have h2 := h y List.mem_cons_self
    simp only [List.sum_cons] at hs
    intro x hx
    rcases List.mem_cons.1 hx with rfl | hx
    · omega
    · exact sum_zero (fun y hy => h y (List.mem_cons_of_mem _ hy)) (by omega) x hx
theorem sum_all_zero : ∀ {l : List Int}, (∀ x ∈ l, x = 0) → l.sum = 0
  | [], _ => rfl
  | y :: l, h => by
    simp only [List.sum_cons]
    rw [h y List.mem_cons_self, sum_all_zero fun x hx => h x (List.mem_cons_of_mem _ hx)]; rfl

section
variable {od : List Rg} {k : Nat} {N : Nat → Nat}
theorem lk_self (hk : k < od.length) {i m : Nat} (hi : i < od.length) (hm : m < od.length) : lk (zeroed (rot od k)) od i m = like (od.getD (sg od.length k i) default) (od.getD m default) := by
  have hl := rot_length (od := od) (k := k) (by omega)
  unfold lk
  rw [if_pos ⟨by rw [zeroed_length, hl]; exact hi, hm⟩, zeroed_get (by rw [hl]; exact hi), like_zero, rot_get hk hi]
theorem dim_self (hk : k < od.length) : dim (zeroed (rot od k)) od = od.length := by
  unfold dim
  rw [zeroed_length, rot_length (by omega)]; omega
theorem keeps (hk : k < od.length) (ha : Apart od) (hb : A.Best (dim (zeroed (rot od k)) od) (cst (zeroed (rot od k)) od) N) :
    ∀ i, i < od.length → N (i + 1) - 1 = sg od.length k i ∧ fresh (zeroed (rot od k)) od N i = false := by
  rw [dim_self hk] at hb
  have hp0 : A.Pf od.length (fun r => sg od.length k (r - 1) + 1) :=
    ⟨fun r h1 h2 => ⟨by omega, by have := sg_lt (n := od.length) (k := k) (i := r - 1) hk (by omega); omega⟩, fun r r' h1 h2 h3 h4 e => by
      have := sg_inj (n := od.length) (k := k) (i := r - 1) (j := r' - 1) hk (by omega) (by omega) (by simpa using e)
      omega⟩
  have ht0 : A.tot od.length (cst (zeroed (rot od k)) od) (fun r => sg od.length k (r - 1) + 1) = 0 := by
    apply sum_all_zero
    intro x hx
    obtain ⟨r, hr, rfl⟩ := List.mem_map.1 hx
    have hr' := A.mem_nums.1 hr
    have hs := sg_lt (n := od.length) (k := k) (i := r - 1) hk (by omega)
    unfold cst cost
    rw [Nat.add_sub_cancel, lk_self hk (by omega) hs, like_self (ha.pr _ hs)]
    decide
  have hle := hb.min _ hp0
  rw [ht0] at hle
  have hz := sum_zero (fun x hx => by
    obtain ⟨r, _, rfl⟩ := List.mem_map.1 hx
    exact (cost_bd _ _ _ _).1) hle
  intro i hi
  have hc : cst (zeroed (rot od k)) od (i + 1) (N (i + 1)) = 0 := hz _ (List.mem_map.2 ⟨i + 1, A.mem_nums.2 ⟨by omega, by omega⟩, rfl⟩)
  have hn := hb.pf.rg (i + 1) (by omega) (by omega)
  unfold cst cost at hc
  rw [Nat.add_sub_cancel] at hc
  have hlk : 300 ≤ lk (zeroed (rot od k)) od i (N (i + 1) - 1) := by split at hc <;> omega
  refine ⟨?_, by unfold fresh; rw [decide_eq_false]; omega⟩
  rw [lk_self hk hi (by omega)] at hlk
  have hs := sg_lt (n := od.length) (k := k) (i := i) hk hi
  generalize sg od.length k i = s at *
  by_cases h1 : N (i + 1) - 1 < s
  · have := ha.un s _ hs h1; omega
  · by_cases h2 : s < N (i + 1) - 1
    · have := ha.un (N (i + 1) - 1) s (by omega) h2
      rw [like_comm] at this; omega
    · omega
theorem keeps_cnt (h : ∀ i, i < od.length → N (i + 1) - 1 = sg od.length k i ∧ fresh (zeroed (rot od k)) od N i = false) : ∀ i, i ≤ od.length → cntF (zeroed (rot od k)) od N i = 0
  | 0, _ => rfl
  | i + 1, hi => by simp [cntF, keeps_cnt h i (by omega), (h i (by omega)).2]
theorem keeps_outs (hk : k < od.length) (un : Int) (h : ∀ i, i < od.length → N (i + 1) - 1 = sg od.length k i ∧ fresh (zeroed (rot od k)) od N i = false) : outs (zeroed (rot od k)) od N un = rot od k := by
  have hl := rot_length (od := od) (k := k) (by omega)
  apply List.ext_getElem
  · rw [outs_length, zeroed_length]
  · intro i h1 h2
    rw [outs_length, zeroed_length, hl] at h1
    have e1 := outs_get (zeroed (rot od k)) od N un (i := i) (by rw [zeroed_length, hl]; exact h1)
    have e2 : (outs (zeroed (rot od k)) od N un)[i]'(by rw [outs_length, zeroed_length, hl]; exact h1) = (outs (zeroed (rot od k)) od N un).getD i default := by
      rw [List.getD, List.getElem?_eq_getElem (by rw [outs_length, zeroed_length, hl]; exact h1)]; rfl
    have e3 : (rot od k)[i] = (rot od k).getD i default := by rw [List.getD, List.getElem?_eq_getElem h2]; rfl
    rw [e2, e1, e3]
    unfold outR ident
    rw [(h i h1).2, (h i h1).1, zeroed_get (by rw [hl]; exact h1), rot_get hk h1]
    rfl
theorem keeps_gone (hk : k < od.length) : ∀ m, m ≤ od.length → goneL (rot od k) od m = []
  | 0, _ => rfl
  | m + 1, hm => by
    have hh : has (rot od k) (od.getD m default).id = true := by
      have hmem : od.getD m default ∈ rot od k := by
        have : od.getD m default ∈ od.take k ++ od.drop k := by rw [List.take_append_drop]; exact getD_mem (by omega)
        unfold rot
        rcases List.mem_append.1 this with h | h
        · exact List.mem_append.2 (.inr h)
        · exact List.mem_append.2 (.inl h)
      unfold has
      rw [List.any_eq_true]
      exact ⟨_, hmem, by simp⟩
    show goneL (rot od k) od m ++ _ = []
    rw [keeps_gone hk m (by omega)]
    unfold used
    rw [hh]
    rfl
end
end I
end Go.Proofs.Ytoemhphgnpedmaa
