/-
  The plain mathematics of layer 17 (differences of rows): trimmed rows, splices, their cost. By an AI agent.
-/
import Derived.Test.YteakiielcmgkeaaEPlain2
namespace Go.Proofs.Yteakiielcmgkeaa
namespace R

/-- A row without the blanks at its end. -/
def trimEnd {γ : Type} (bl : γ → Bool) : List γ → List γ
  | [] => []
  | x :: l => match trimEnd bl l with
    | [] => if bl x then [] else [x]
    | y :: m => x :: y :: m

section
variable {γ : Type} (bl : γ → Bool)

theorem trim_cons_nil {x : γ} {l : List γ} (h : trimEnd bl l = []) : trimEnd bl (x :: l) = if bl x then [] else [x] := by rw [trimEnd, h]
theorem trim_cons_ne {x : γ} {l : List γ} (h : trimEnd bl l ≠ []) : trimEnd bl (x :: l) = x :: trimEnd bl l := by
  rw [trimEnd]
  cases h' : trimEnd bl l with
  | nil => exact absurd h' h
  | cons y m => rfl
theorem trim_length (l : List γ) : (trimEnd bl l).length ≤ l.length := by
  induction l with
  | nil => simp [trimEnd]
  | cons x l ih =>
    by_cases h : trimEnd bl l = []
    · rw [trim_cons_nil bl h]; split <;> simp
    · rw [trim_cons_ne bl h]; simpa using ih
theorem trim_prefix (l : List γ) : List.IsPrefix (trimEnd bl l) l := by
  induction l with
  | nil => exact List.nil_prefix
  | cons x l ih =>
    by_cases h : trimEnd bl l = []
    · rw [trim_cons_nil bl h]
      split
      · exact List.nil_prefix
      · exact ⟨l, rfl⟩
    · rw [trim_cons_ne bl h]
      exact (List.cons_prefix_cons).2 ⟨rfl, ih⟩
theorem trim_trim (l : List γ) : trimEnd bl (trimEnd bl l) = trimEnd bl l := by
  induction l with
  | nil => rfl
  | cons x l ih =>
    by_cases h : trimEnd bl l = []
    · rw [trim_cons_nil bl h]
      split
      · rfl
      · rename_i hx
        rw [trim_cons_nil bl rfl, if_neg hx]
    · rw [trim_cons_ne bl h, trim_cons_ne bl (by rw [ih]; exact h), ih]
theorem trim_snoc_blank (l : List γ) {x : γ} (h : bl x = true) : trimEnd bl (l ++ [x]) = trimEnd bl l := by
  induction l with
  | nil => rw [List.nil_append, trim_cons_nil bl rfl, if_pos h]; rfl
  | cons y l ih =>
    rw [List.cons_append]
    by_cases h' : trimEnd bl l = []
    · rw [trim_cons_nil bl (by rw [ih]; exact h'), trim_cons_nil bl h']
    · rw [trim_cons_ne bl (by rw [ih]; exact h'), trim_cons_ne bl h', ih]
theorem trim_snoc_not (l : List γ) {x : γ} (h : bl x = false) : trimEnd bl (l ++ [x]) = l ++ [x] := by
  induction l with
  | nil => rw [List.nil_append, trim_cons_nil bl rfl, if_neg (by simp [h])]
  | cons y l ih =>
    rw [List.cons_append, trim_cons_ne bl (by rw [ih]; simp), ih]
theorem trim_blanks (l m : List γ) (h : ∀ x ∈ m, bl x = true) : trimEnd bl (l ++ m) = trimEnd bl l := by
  induction m generalizing l with
  | nil => rw [List.append_nil]
  | cons x m ih =>
    rw [show l ++ x :: m = (l ++ [x]) ++ m by simp, ih _ (fun y hy => h y (by simp [hy])), trim_snoc_blank bl l (h x (by simp))]
theorem trim_append (l m : List γ) (h : trimEnd bl m ≠ []) : trimEnd bl (l ++ m) = l ++ trimEnd bl m := by
  induction l with
  | nil => rfl
  | cons x l ih =>
    rw [List.cons_append, trim_cons_ne bl (by rw [ih]; simp [h]), ih]
    rfl
theorem trim_append_nil (l m : List γ) (h : trimEnd bl m = []) : trimEnd bl (l ++ m) = trimEnd bl l := by
  refine trim_blanks bl l m (fun x hx => ?_)
  induction m with
  | nil => cases hx
  | cons y m ih =>
    by_cases h' : trimEnd bl m = []
    · rw [trim_cons_nil bl h'] at h
      have hy : bl y = true := by
        by_cases hy : bl y = true
        · exact hy
        · rw [if_neg hy] at h; cases h
      rcases List.mem_cons.1 hx with rfl | hx
      · exact hy
      · exact ih h' hx
    · rw [trim_cons_ne bl h'] at h; cases h
/-- A trimmed list that is cut at its end stays one whose end is the list's. -/
theorem trim_suffix {l p s : List γ} (h : trimEnd bl l = l) (e : l = p ++ s) (hs : s ≠ []) (q : List γ) : trimEnd bl (q ++ s) = q ++ s := by
  have hl : trimEnd bl s = s := by
    by_cases h' : trimEnd bl s = []
    · have h2 := trim_append_nil bl p s h'
      rw [← e, h] at h2
      have h3 := trim_length bl p
      have h4 := congrArg List.length h2
      rw [e, List.length_append] at h4
      have : s.length ≠ 0 := fun h0 => hs (List.eq_nil_of_length_eq_zero h0)
      omega
    · have h2 := trim_append bl p s h'
      rw [← e, h, e] at h2
      exact (List.append_cancel_left h2).symm
  by_cases h' : trimEnd bl s = []
  · rw [hl] at h'; exact absurd h' hs
  · rw [trim_append bl q s h', hl]
/-- The greatest number of glyphs behind which all are blank. -/
theorem trim_take (l : List γ) : ∀ n, (∀ i, n ≤ i → ∀ x, l[i]? = some x → bl x = true) → (n = 0 ∨ ∃ x, l[n - 1]? = some x ∧ bl x = false) → trimEnd bl l = l.take n := by
  intro n h1 h2
  have e : l = l.take n ++ l.drop n := (List.take_append_drop n l).symm
  have hb : trimEnd bl l = trimEnd bl (l.take n) := by
    conv => lhs; rw [e]
    refine trim_blanks bl _ _ (fun x hx => ?_)
    obtain ⟨i, hi, rfl⟩ := List.getElem_of_mem hx
    refine h1 (n + i) (by omega) _ ?_
    rw [List.getElem_drop]
    exact List.getElem?_eq_getElem _
  rw [hb]
  rcases h2 with h2 | ⟨x, hx, hxb⟩
  · subst h2; rfl
  · by_cases hn : n = 0
    · subst hn; rfl
    · have hlt : n - 1 < l.length := (List.getElem?_eq_some_iff.1 hx).1
      have e2 : l.take n = l.take (n - 1) ++ [x] := by
        have := List.take_add_one (l := l) (i := n - 1)
        rw [show n - 1 + 1 = n by omega, hx] at this
        simpa using this
      rw [e2, trim_snoc_not bl _ hxb]
end

/-- A change of a row: where, how many glyphs go, which come. -/
structure Ch (γ : Type) where
  col : Int
  count : Int
  gl : List γ
deriving DecidableEq

section
variable {γ : Type}

def price (c : Ch γ) : Int := 2 + max 0 (min c.count 1000) + c.gl.length
def cost (l : List (Ch γ)) : Int := (l.map price).sum
@[simp] theorem cost_nil : cost ([] : List (Ch γ)) = 0 := rfl
@[simp] theorem cost_cons (c : Ch γ) (l : List (Ch γ)) : cost (c :: l) = price c + cost l := rfl
theorem cost_append (l m : List (Ch γ)) : cost (l ++ m) = cost l + cost m := by simp [cost]

/-- The splices of edits; 'moved' is what the edits before have moved. -/
def ofEd : Int → List (E.Ed γ) → List (Ch γ)
  | _, [] => []
  | moved, e :: l => ⟨e.at_ + moved, e.del, e.ins⟩ :: ofEd (moved + (e.ins.length - e.del)) l

theorem ofEd_nil_iff (m : Int) (l : List (E.Ed γ)) : ofEd m l = [] ↔ l = [] := by
  cases l <;> simp [ofEd]
theorem ofEd_length (m : Int) (l : List (E.Ed γ)) : (ofEd m l).length = l.length := by
  induction l generalizing m with
  | nil => rfl
  | cons e l ih => simp [ofEd, ih]
theorem ofEd_sum (m : Int) (l : List (E.Ed γ)) : ((ofEd m l).map fun c => c.count + (c.gl.length : Int)).sum = E.weight l := by
  induction l generalizing m with
  | nil => rfl
  | cons e l ih => simp [ofEd, ih]
theorem ofEd_shift (k : Int) (m : Int) (l : List (E.Ed γ)) : ofEd m (l.map (E.Ed.shift k)) = (ofEd m l).map fun c => { c with col := c.col + k } := by
  induction l generalizing m with
  | nil => rfl
  | cons e l ih =>
    simp only [List.map_cons, ofEd, ih]
    simp [E.Ed.shift]
    omega
end

section
variable {γ : Type} [DecidableEq γ] (bl : γ → Bool)

/-- The change that replaces a row. -/
def repl (a b : List γ) : Ch γ := ⟨0, (trimEnd bl a).length, trimEnd bl b⟩
def outs (a b : List γ) : List (Ch γ) := ofEd 0 (E.script (trimEnd bl a) (trimEnd bl b))
def splices (a b : List γ) : List (Ch γ) :=
  if outs bl a b ≠ [] ∧ cost [repl bl a b] < cost (outs bl a b) then [repl bl a b] else outs bl a b

theorem script_nil_iff (a b : List γ) : E.script a b = [] ↔ a = b := by
  constructor
  · intro h
    have := E.app_script a b
    rw [h] at this
    injection this
  · rintro rfl
    have h1 := E.script_weight a a
    rw [(E.dist_zero a a).2 rfl] at h1
    cases h : E.script a a with
    | nil => rfl
    | cons e l =>
      have hg := E.script_good a a
      rw [h] at hg h1
      have : ∀ (l : List (E.Ed γ)) (lo : Int), E.Good lo l → 0 ≤ E.weight l := by
        intro l
        induction l with
        | nil => intro _ _; simp
        | cons x l ih =>
          intro lo h
          have := ih _ h.2.2.2
          have := h.2.2.1
          rw [E.weight_cons]
          omega
      have := this l _ hg.2.2.2
      have := hg.2.2.1
      rw [E.weight_cons] at h1
      simp at h1
      omega

theorem splices_nil_iff (a b : List γ) : splices bl a b = [] ↔ trimEnd bl a = trimEnd bl b := by
  unfold splices
  split
  · rename_i h
    constructor
    · intro hh; cases hh
    · intro hh
      exact absurd ((ofEd_nil_iff _ _).2 ((script_nil_iff _ _).2 hh)) h.1
  · unfold outs
    rw [ofEd_nil_iff, script_nil_iff]

end
end R
end Go.Proofs.Yteakiielcmgkeaa
