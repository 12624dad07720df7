/-
  The plain mathematics of layer 16: the walk as the program goes it, each step with the index before it. By an AI agent.
-/
import Derived.Test.YteakiielcmgkeaaEPlain2
namespace Go.Proofs.Yteakiielcmgkeaa
namespace E
variable {α : Type} [DecidableEq α]

/-- Steps, each with the index in the old list before it. -/
def withAt : Nat → List Nat → List (Nat × Nat)
  | _, [] => []
  | i, s :: ss => (s, i) :: withAt (if s = 2 then i else i + 1) ss
def rest (a b : List α) (i j : Nat) : List (Nat × Nat) := withAt i (walk (a.drop i) (b.drop j))
def ys (a b : List α) : List (Nat × Nat) := rest a b 0 0

theorem withAt_len (i : Nat) (ss : List Nat) : (withAt i ss).length = ss.length := by
  induction ss generalizing i with
  | nil => rfl
  | cons s ss ih => simp [withAt, ih]
theorem ys_len (a b : List α) : (ys a b).length ≤ a.length + b.length := by
  unfold ys rest
  rw [withAt_len]
  exact walk_length a b

theorem rest_end {a b : List α} {i j : Nat} (hi : a.length ≤ i) (hj : b.length ≤ j) : rest a b i j = [] := by
  unfold rest
  rw [List.drop_eq_nil_of_le hi, List.drop_eq_nil_of_le hj]
  rfl
theorem rest_match {a b : List α} {i j : Nat} (hi : i < a.length) (hj : j < b.length) (e : a[i] = b[j]) : rest a b i j = (0, i) :: rest a b (i + 1) (j + 1) := by
  unfold rest
  rw [List.drop_eq_getElem_cons hi, List.drop_eq_getElem_cons hj, e, walk_eq]
  rfl
theorem rest_rem {a b : List α} {i j : Nat} (hi : i < a.length) (hj : j < b.length) (e : a[i] ≠ b[j]) (hl : lcs (a.drop i) (b.drop (j + 1)) ≤ lcs (a.drop (i + 1)) (b.drop j)) : rest a b i j = (1, i) :: rest a b (i + 1) j := by
  unfold rest
  rw [List.drop_eq_getElem_cons hi] at hl ⊢
  rw [List.drop_eq_getElem_cons hj] at hl ⊢
  rw [walk_rem e hl]
  rfl
theorem rest_add {a b : List α} {i j : Nat} (hi : i < a.length) (hj : j < b.length) (e : a[i] ≠ b[j]) (hl : ¬ lcs (a.drop i) (b.drop (j + 1)) ≤ lcs (a.drop (i + 1)) (b.drop j)) : rest a b i j = (2, i) :: rest a b i (j + 1) := by
  unfold rest
  conv => lhs; rw [List.drop_eq_getElem_cons hi, List.drop_eq_getElem_cons hj]
  rw [List.drop_eq_getElem_cons hi] at hl
  rw [List.drop_eq_getElem_cons hj] at hl
  rw [walk_add e hl, List.drop_eq_getElem_cons hi]
  rfl
theorem rest_rem_end {a b : List α} {i j : Nat} (hi : i < a.length) (hj : b.length ≤ j) : rest a b i j = (1, i) :: rest a b (i + 1) j := by
  unfold rest
  rw [List.drop_eq_getElem_cons hi, List.drop_eq_nil_of_le hj, walk_nil']
  rfl
theorem rest_add_end {a b : List α} {i j : Nat} (hi : a.length ≤ i) (hj : j < b.length) : rest a b i j = (2, i) :: rest a b i (j + 1) := by
  unfold rest
  rw [List.drop_eq_nil_of_le hi, List.drop_eq_getElem_cons hj, walk_nil]
  rfl

/-! What the program's loops make of the steps. -/
variable [Inhabited α]

def modLast (f : Ed α → Ed α) : List (Ed α) → List (Ed α)
  | [] => []
  | [x] => [f x]
  | x :: y :: l => x :: modLast f (y :: l)
omit [DecidableEq α] [Inhabited α] in
theorem modLast_snoc (f : Ed α → Ed α) (l : List (Ed α)) (x : Ed α) : modLast f (l ++ [x]) = l ++ [f x] := by
  induction l with
  | nil => rfl
  | cons y l ih =>
    cases l with
    | nil => rfl
    | cons z l => simp only [List.cons_append, modLast]; rw [← List.cons_append, ih]; rfl
omit [DecidableEq α] [Inhabited α] in
theorem modLast_len (f : Ed α → Ed α) (l : List (Ed α)) : (modLast f l).length = l.length := by
  induction l with
  | nil => rfl
  | cons y l ih =>
    cases l with
    | nil => rfl
    | cons z l => simp only [modLast, List.length_cons] at ih ⊢; omega

/-- The edits so far, whether the last is open, the index in the new list. -/
def sstep (b : List α) (st : List (Ed α) × Bool × Nat) (x : Nat × Nat) : List (Ed α) × Bool × Nat :=
  if x.1 = 0 then (st.1, false, st.2.2 + 1)
  else if x.1 = 1 then (modLast (fun e => { e with del := e.del + 1 }) (if st.2.1 = true then st.1 else st.1 ++ [⟨x.2, 0, []⟩]), true, st.2.2)
  else (modLast (fun e => { e with ins := e.ins ++ [b.getD st.2.2 default] }) (if st.2.1 = true then st.1 else st.1 ++ [⟨x.2, 0, []⟩]), true, st.2.2 + 1)
omit [DecidableEq α] in
theorem sstep_0 (b : List α) (o : List (Ed α)) (p : Bool) (j i : Nat) : sstep b (o, p, j) (0, i) = (o, false, j + 1) := rfl
omit [DecidableEq α] in
theorem sstep_1 (b : List α) (o : List (Ed α)) (p : Bool) (j i : Nat) : sstep b (o, p, j) (1, i) = (modLast (fun e => { e with del := e.del + 1 }) (if p = true then o else o ++ [⟨i, 0, []⟩]), true, j) := rfl
omit [DecidableEq α] in
theorem sstep_2 (b : List α) (o : List (Ed α)) (p : Bool) (j i : Nat) : sstep b (o, p, j) (2, i) = (modLast (fun e => { e with ins := e.ins ++ [b.getD j default] }) (if p = true then o else o ++ [⟨i, 0, []⟩]), true, j + 1) := rfl
def sst (b : List α) (pre : List (Nat × Nat)) : List (Ed α) × Bool × Nat := pre.foldl (sstep b) ([], false, 0)
omit [DecidableEq α] in
theorem sst_snoc (b : List α) (pre : List (Nat × Nat)) (x : Nat × Nat) : sst b (pre ++ [x]) = sstep b (sst b pre) x := by simp [sst]

theorem sst_fold (b : List α) : ∀ a' b' : List α, ∀ (i j : Nat) (done : List (Ed α)) (cur : Option (Ed α)), b' = b.drop j →
    ((withAt i (walk a' b')).foldl (sstep b) (done ++ cur.toList, cur.isSome, j)).1 = done ++ scr cur i b' (walk a' b') := by
  have open_ : ∀ (done : List (Ed α)) (cur : Option (Ed α)) (i : Nat), (if cur.isSome = true then done ++ cur.toList else done ++ cur.toList ++ [⟨i, 0, []⟩]) = done ++ [cur.getD ⟨i, 0, []⟩] := by
    intro done cur i
    cases cur <;> simp
  refine walk_ind (P := fun a' b' s => ∀ (i j : Nat) (done : List (Ed α)) (cur : Option (Ed α)), b' = b.drop j → ((withAt i s).foldl (sstep b) (done ++ cur.toList, cur.isSome, j)).1 = done ++ scr cur i b' s) ?_ ?_ ?_ ?_
  · intro i j done cur _
    rfl
  · rintro x xs ys s - ih i j done cur hb
    have hb' : ys = b.drop (j + 1) := by rw [← List.drop_drop, ← hb]; rfl
    have := ih (i + 1) (j + 1) (done ++ cur.toList) none hb'
    rw [scr_0]
    simpa [withAt, sstep] using this
  · rintro x xs b' s - - - ih i j done cur hb
    have := ih (i + 1) j done (some { cur.getD ⟨i, 0, []⟩ with del := (cur.getD ⟨i, 0, []⟩).del + 1 }) hb
    rw [scr_1, ← this]
    have e : withAt i (1 :: s) = (1, i) :: withAt (i + 1) s := rfl
    rw [e, List.foldl_cons, sstep_1, open_, modLast_snoc]
    rfl
  · rintro a' y ys s - - - ih i j done cur hb
    have hb' : ys = b.drop (j + 1) := by rw [← List.drop_drop, ← hb]; rfl
    have hy : b.getD j default = y := by
      have := congrArg (fun l => l[0]?) hb
      simp at this
      simp [List.getD, ← this]
    have := ih i (j + 1) done (some { cur.getD ⟨i, 0, []⟩ with ins := (cur.getD ⟨i, 0, []⟩).ins ++ [y] }) hb'
    rw [scr_2, ← this]
    have e : withAt i (2 :: s) = (2, i) :: withAt i s := rfl
    rw [e, List.foldl_cons, sstep_2, open_, modLast_snoc, hy]
    rfl
theorem sst_script (a b : List α) : (sst b (ys a b)).1 = script a b := by
  have := sst_fold b a b 0 0 [] none rfl
  simpa [sst, ys, rest, script] using this

/-- The matched elements so far. -/
def cst (a : List α) (pre : List (Nat × Nat)) : List α := pre.flatMap fun x => if x.1 = 0 then [a.getD x.2 default] else []
omit [DecidableEq α] in
theorem cst_snoc (a : List α) (pre : List (Nat × Nat)) (x : Nat × Nat) : cst a (pre ++ [x]) = cst a pre ++ if x.1 = 0 then [a.getD x.2 default] else [] := by simp [cst]
omit [DecidableEq α] in
theorem cst_cons (a : List α) (s i : Nat) (l : List (Nat × Nat)) : cst a ((s, i) :: l) = (if s = 0 then [a.getD i default] else []) ++ cst a l := rfl
theorem cst_fold (a : List α) : ∀ a' b' : List α, ∀ i : Nat, a' = a.drop i → cst a (withAt i (walk a' b')) = cm a' (walk a' b') := by
  refine walk_ind (P := fun a' b' s => ∀ i : Nat, a' = a.drop i → cst a (withAt i s) = cm a' s) ?_ ?_ ?_ ?_
  · intro i _; rfl
  · rintro x xs ys s - ih i ha
    have ha' : xs = a.drop (i + 1) := by rw [← List.drop_drop, ← ha]; rfl
    have hx : a.getD i default = x := by
      have := congrArg (fun l => l[0]?) ha
      simp at this
      simp [List.getD, ← this]
    have := ih (i + 1) ha'
    have e : withAt i (0 :: s) = (0, i) :: withAt (i + 1) s := rfl
    rw [e, cst_cons, this, hx]
    rfl
  · rintro x xs b' s - - - ih i ha
    have ha' : xs = a.drop (i + 1) := by rw [← List.drop_drop, ← ha]; rfl
    have := ih (i + 1) ha'
    have e : withAt i (1 :: s) = (1, i) :: withAt (i + 1) s := rfl
    rw [e, cst_cons, this]
    rfl
  · rintro a' y ys s - - - ih i ha
    have := ih i ha
    have e : withAt i (2 :: s) = (2, i) :: withAt i s := rfl
    rw [e, cst_cons, this]
    rfl
theorem cst_common (a b : List α) : cst a (ys a b) = common a b := by
  have := cst_fold a a b 0 rfl
  simpa [ys, rest, common] using this
end E
end Go.Proofs.Yteakiielcmgkeaa
