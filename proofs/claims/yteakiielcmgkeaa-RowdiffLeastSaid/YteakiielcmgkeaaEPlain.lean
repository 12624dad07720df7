/-
  The plain mathematics of layer 16 (edit scripts): longest common subsequences, the walk, scripts. By an AI agent.
-/
namespace Go.Proofs.Yteakiielcmgkeaa
namespace E
variable {α : Type} [DecidableEq α]

def lcsRow (x : α) (f : List α → Nat) : List α → Nat
  | [] => 0
  | y :: ys => if x = y then 1 + f ys else max (f (y :: ys)) (lcsRow x f ys)

/-- The length of a longest common subsequence. -/
def lcs : List α → List α → Nat
  | [] => fun _ => 0
  | x :: xs => lcsRow x (lcs xs)

@[simp] theorem lcs_nil (b : List α) : lcs [] b = 0 := rfl
@[simp] theorem lcs_nil' (a : List α) : lcs a [] = 0 := by cases a <;> rfl
theorem lcs_cons (x y : α) (xs ys : List α) : lcs (x :: xs) (y :: ys) = if x = y then 1 + lcs xs ys else max (lcs xs (y :: ys)) (lcs (x :: xs) ys) := rfl
theorem lcs_eq (x : α) (xs ys : List α) : lcs (x :: xs) (x :: ys) = 1 + lcs xs ys := by rw [lcs_cons, if_pos rfl]
theorem lcs_ne {x y : α} (h : x ≠ y) (xs ys : List α) : lcs (x :: xs) (y :: ys) = max (lcs xs (y :: ys)) (lcs (x :: xs) ys) := by rw [lcs_cons, if_neg h]

/-- No common subsequence is longer. -/
theorem lcs_ge (a : List α) : ∀ (b l : List α), List.Sublist l a → List.Sublist l b → l.length ≤ lcs a b := by
  induction a with
  | nil => intro b l h _; have := List.sublist_nil.1 h; subst this; simp
  | cons x xs iha =>
    intro b
    induction b with
    | nil => intro l _ h; have := List.sublist_nil.1 h; subst this; simp
    | cons y ys ihb =>
      intro l ha hb
      by_cases hxy : x = y
      · subst hxy
        rw [lcs_eq]
        cases l with
        | nil => simp
        | cons z zs =>
          have h1 : List.Sublist zs xs := by
            have := ha.tail
            simpa using this
          have h2 : List.Sublist zs ys := by
            have := hb.tail
            simpa using this
          have := iha ys zs h1 h2
          simp only [List.length_cons]
          omega
      · rw [lcs_ne hxy]
        cases ha with
        | cons _ h => have := iha (y :: ys) l h hb; omega
        | cons_cons _ h =>
          cases hb with
          | cons _ h' => have := ihb _ (h.cons_cons x) h'; omega
          | cons_cons _ h' => exact absurd rfl hxy

/-- There is one of that length. -/
theorem lcs_has (a : List α) : ∀ b : List α, ∃ l, List.Sublist l a ∧ List.Sublist l b ∧ l.length = lcs a b := by
  induction a with
  | nil => intro b; exact ⟨[], List.Sublist.refl _, List.nil_sublist _, rfl⟩
  | cons x xs iha =>
    intro b
    induction b with
    | nil => exact ⟨[], List.nil_sublist _, List.Sublist.refl _, rfl⟩
    | cons y ys ihb =>
      by_cases hxy : x = y
      · subst hxy
        obtain ⟨l, h1, h2, h3⟩ := iha ys
        exact ⟨x :: l, h1.cons_cons x, h2.cons_cons x, by rw [lcs_eq, List.length_cons, h3]; omega⟩
      · rw [lcs_ne hxy]
        obtain ⟨l, h1, h2, h3⟩ := iha (y :: ys)
        obtain ⟨l', h1', h2', h3'⟩ := ihb
        by_cases hm : lcs (x :: xs) ys ≤ lcs xs (y :: ys)
        · exact ⟨l, h1.cons x, h2, by omega⟩
        · exact ⟨l', h1', h2'.cons y, by omega⟩

theorem lcs_le_left (a b : List α) : lcs a b ≤ a.length := by
  obtain ⟨l, h1, _, h3⟩ := lcs_has a b
  rw [← h3]; exact h1.length_le
theorem lcs_le_right (a b : List α) : lcs a b ≤ b.length := by
  obtain ⟨l, _, h2, h3⟩ := lcs_has a b
  rw [← h3]; exact h2.length_le
theorem lcs_comm (a b : List α) : lcs a b = lcs b a := by
  obtain ⟨l, h1, h2, h3⟩ := lcs_has a b
  obtain ⟨m, g1, g2, g3⟩ := lcs_has b a
  have := lcs_ge b a l h2 h1
  have := lcs_ge a b m g2 g1
  omega
theorem lcs_sub {a b : List α} (h : List.Sublist b a) : lcs a b = b.length := by
  have h1 := lcs_le_right a b
  have h2 := lcs_ge a b b h (List.Sublist.refl _)
  omega
theorem lcs_self (a : List α) : lcs a a = a.length := lcs_sub (List.Sublist.refl _)

/-- The distance. -/
def dist (a b : List α) : Nat := a.length + b.length - 2 * lcs a b
theorem dist_int (a b : List α) : (dist a b : Int) = a.length + b.length - 2 * (lcs a b : Int) := by
  have := lcs_le_left a b
  have := lcs_le_right a b
  unfold dist; omega
theorem dist_comm (a b : List α) : dist a b = dist b a := by unfold dist; rw [lcs_comm, Nat.add_comm]
theorem dist_zero (a b : List α) : dist a b = 0 ↔ a = b := by
  have h1 := lcs_le_left a b
  have h2 := lcs_le_right a b
  constructor
  · intro h
    unfold dist at h
    obtain ⟨l, g1, g2, g3⟩ := lcs_has a b
    have e1 := g1.eq_of_length (by omega)
    have e2 := g2.eq_of_length (by omega)
    rw [← e1, ← e2]
  · rintro rfl
    unfold dist
    rw [lcs_self]; omega


omit [DecidableEq α] in
/-- Two sublists of a list have a large common sublist. -/
theorem meet (b : List α) : ∀ x y : List α, List.Sublist x b → List.Sublist y b → ∃ z, List.Sublist z x ∧ List.Sublist z y ∧ x.length + y.length ≤ b.length + z.length := by
  induction b with
  | nil =>
    intro x y hx hy
    rw [List.sublist_nil.1 hx, List.sublist_nil.1 hy]
    exact ⟨[], List.Sublist.refl _, List.Sublist.refl _, by simp⟩
  | cons c cs ih =>
    intro x y hx hy
    cases hx with
    | cons _ hx =>
      cases hy with
      | cons _ hy =>
        obtain ⟨z, h1, h2, h3⟩ := ih x y hx hy
        exact ⟨z, h1, h2, by simp; omega⟩
      | cons_cons _ hy =>
        rename_i y'
        obtain ⟨z, h1, h2, h3⟩ := ih x y' hx hy
        exact ⟨z, h1, h2.cons c, by simp; omega⟩
    | cons_cons _ hx =>
      rename_i x'
      cases hy with
      | cons _ hy =>
        obtain ⟨z, h1, h2, h3⟩ := ih x' y hx hy
        exact ⟨z, h1.cons c, h2, by simp; omega⟩
      | cons_cons _ hy =>
        rename_i y'
        obtain ⟨z, h1, h2, h3⟩ := ih x' y' hx hy
        exact ⟨c :: z, h1.cons_cons c, h2.cons_cons c, by simp; omega⟩

theorem dist_tri (a b c : List α) : dist a c ≤ dist a b + dist b c := by
  obtain ⟨x, x1, x2, x3⟩ := lcs_has a b
  obtain ⟨y, y1, y2, y3⟩ := lcs_has b c
  obtain ⟨z, z1, z2, z3⟩ := meet b x y x2 y1
  have h := lcs_ge a c z (z1.trans x1) (z2.trans y2)
  have := lcs_le_left a b
  have := lcs_le_right a b
  have := lcs_le_left b c
  have := lcs_le_right b c
  have := lcs_le_left a c
  have := lcs_le_right a c
  unfold dist
  omega

theorem lcs_front (c a b : List α) : lcs (c ++ a) (c ++ b) = c.length + lcs a b := by
  induction c with
  | nil => simp
  | cons x c ih => rw [List.cons_append, List.cons_append, lcs_eq, ih, List.length_cons]; omega

theorem lcs_reverse_le (a b : List α) : lcs a b ≤ lcs a.reverse b.reverse := by
  obtain ⟨l, h1, h2, h3⟩ := lcs_has a b
  have := lcs_ge a.reverse b.reverse l.reverse (by simpa using h1) (by simpa using h2)
  simpa [h3] using this
theorem lcs_reverse (a b : List α) : lcs a.reverse b.reverse = lcs a b := by
  have h1 := lcs_reverse_le a b
  have h2 := lcs_reverse_le a.reverse b.reverse
  simp only [List.reverse_reverse] at h2
  omega
theorem lcs_back (c a b : List α) : lcs (a ++ c) (b ++ c) = c.length + lcs a b := by
  rw [← lcs_reverse, List.reverse_append, List.reverse_append, lcs_front, lcs_reverse, List.length_reverse]

theorem dist_context (c a b : List α) : dist (c ++ (a ++ c)) (c ++ (b ++ c)) = dist a b := by
  have := lcs_le_left a b
  have := lcs_le_right a b
  unfold dist
  rw [lcs_front, lcs_back]
  simp only [List.length_append]
  omega

/-! The walk: 0 a match, 1 a deletion, 2 an insertion. -/
def walkRow (x : α) (xs : List α) (f : List α → List Nat) : List α → List Nat
  | [] => 1 :: f []
  | y :: ys => if x = y then 0 :: f ys else if lcs (x :: xs) ys ≤ lcs xs (y :: ys) then 1 :: f (y :: ys) else 2 :: walkRow x xs f ys
def walk : List α → List α → List Nat
  | [] => fun b => b.map fun _ => 2
  | x :: xs => walkRow x xs (walk xs)

theorem walk_nil_nil : walk ([] : List α) [] = [] := rfl
theorem walk_nil (y : α) (ys : List α) : walk [] (y :: ys) = 2 :: walk [] ys := rfl
theorem walk_nil' (x : α) (xs : List α) : walk (x :: xs) [] = 1 :: walk xs [] := rfl
theorem walk_eq (x : α) (xs ys : List α) : walk (x :: xs) (x :: ys) = 0 :: walk xs ys := by
  show (if x = x then 0 :: walk xs ys else _) = _
  rw [if_pos rfl]
theorem walk_rem {x y : α} {xs ys : List α} (h : x ≠ y) (hl : lcs (x :: xs) ys ≤ lcs xs (y :: ys)) : walk (x :: xs) (y :: ys) = 1 :: walk xs (y :: ys) := by
  show (if x = y then _ else if lcs (x :: xs) ys ≤ lcs xs (y :: ys) then 1 :: walk xs (y :: ys) else _) = _
  rw [if_neg h, if_pos hl]
theorem walk_add {x y : α} {xs ys : List α} (h : x ≠ y) (hl : ¬ lcs (x :: xs) ys ≤ lcs xs (y :: ys)) : walk (x :: xs) (y :: ys) = 2 :: walk (x :: xs) ys := by
  show (if x = y then _ else if lcs (x :: xs) ys ≤ lcs xs (y :: ys) then _ else 2 :: walk (x :: xs) ys) = _
  rw [if_neg h, if_neg hl]

/-- A walk of two lists: what any induction over it wants. -/
theorem walk_ind {P : List α → List α → List Nat → Prop} (h0 : P [] [] [])
    (h1 : ∀ x xs ys s, s = walk xs ys → P xs ys s → P (x :: xs) (x :: ys) (0 :: s))
    (h2 : ∀ x xs b s, s = walk xs b → (∀ y ys, b = y :: ys → x ≠ y) → lcs (x :: xs) b = lcs xs b → P xs b s → P (x :: xs) b (1 :: s))
    (h3 : ∀ a y ys s, s = walk a ys → (∀ x xs, a = x :: xs → x ≠ y) → lcs a (y :: ys) = lcs a ys → P a ys s → P a (y :: ys) (2 :: s)) :
    ∀ a b, P a b (walk a b) := by
  intro a
  induction a with
  | nil =>
    intro b
    induction b with
    | nil => exact h0
    | cons y ys ih => rw [walk_nil]; exact h3 [] y ys _ rfl (fun _ _ h => by cases h) rfl ih
  | cons x xs iha =>
    intro b
    induction b with
    | nil => rw [walk_nil']; exact h2 x xs [] _ rfl (fun _ _ h => by cases h) (by simp) (iha [])
    | cons y ys ihb =>
      by_cases hxy : x = y
      · subst hxy
        rw [walk_eq]
        exact h1 x xs ys _ rfl (iha ys)
      · by_cases hl : lcs (x :: xs) ys ≤ lcs xs (y :: ys)
        · rw [walk_rem hxy hl]
          exact h2 x xs (y :: ys) _ rfl (fun _ _ h => by injection h with h _; subst h; exact hxy) (by rw [lcs_ne hxy]; omega) (iha _)
        · rw [walk_add hxy hl]
          exact h3 (x :: xs) y ys _ rfl (fun _ _ h => by injection h with h _; subst h; exact hxy) (by rw [lcs_ne hxy]; omega) ihb

def cnt (k : Nat) (s : List Nat) : Nat := (s.filter (· == k)).length
@[simp] theorem cnt_nil (k : Nat) : cnt k [] = 0 := rfl
theorem cnt_cons (k x : Nat) (s : List Nat) : cnt k (x :: s) = (if x = k then 1 else 0) + cnt k s := by
  unfold cnt
  by_cases h : x = k
  · simp [h]; omega
  · simp [h]

theorem walk_counts (a b : List α) : cnt 0 (walk a b) = lcs a b ∧ cnt 0 (walk a b) + cnt 1 (walk a b) = a.length ∧ cnt 0 (walk a b) + cnt 2 (walk a b) = b.length ∧ (walk a b).length = cnt 0 (walk a b) + cnt 1 (walk a b) + cnt 2 (walk a b) := by
  refine walk_ind (P := fun a b s => cnt 0 s = lcs a b ∧ cnt 0 s + cnt 1 s = a.length ∧ cnt 0 s + cnt 2 s = b.length ∧ s.length = cnt 0 s + cnt 1 s + cnt 2 s) ?_ ?_ ?_ ?_ a b
  · simp
  · rintro x xs ys s - ⟨h1, h2, h3, h4⟩
    simp only [cnt_cons, lcs_eq, List.length_cons]
    simp; omega
  · rintro x xs b s - - hl ⟨h1, h2, h3, h4⟩
    simp only [cnt_cons, hl, List.length_cons]
    simp; omega
  · rintro a y ys s - - hl ⟨h1, h2, h3, h4⟩
    simp only [cnt_cons, hl, List.length_cons]
    simp; omega

theorem walk_length (a b : List α) : (walk a b).length ≤ a.length + b.length := by
  have := walk_counts a b
  omega

/-- The distance counts the steps that are no matches. -/
theorem walk_dist (a b : List α) : cnt 1 (walk a b) + cnt 2 (walk a b) = dist a b := by
  have := walk_counts a b
  unfold dist
  omega

theorem walk_front (c a b : List α) : walk (c ++ a) (c ++ b) = c.map (fun _ => 0) ++ walk a b := by
  induction c with
  | nil => rfl
  | cons x c ih => rw [List.cons_append, List.cons_append, walk_eq, ih]; rfl

/-! Renaming. -/
theorem lcs_map {β : Type} [DecidableEq β] (f : α → β) (a : List α) : ∀ b : List α, (∀ x ∈ a, ∀ y ∈ b, f x = f y → x = y) → lcs (a.map f) (b.map f) = lcs a b := by
  induction a with
  | nil => intro b _; simp
  | cons x xs iha =>
    intro b
    induction b with
    | nil => intro _; simp
    | cons y ys ihb =>
      intro hf
      have h1 := iha ys (fun u hu v hv => hf u (by simp [hu]) v (by simp [hv]))
      have h2 := iha (y :: ys) (fun u hu v hv => hf u (by simp [hu]) v hv)
      have h3 := ihb (fun u hu v hv => hf u hu v (by simp [hv]))
      simp only [List.map_cons] at h1 h2 h3 ⊢
      by_cases hxy : x = y
      · subst hxy
        rw [lcs_eq, lcs_eq, h1]
      · rw [lcs_ne hxy, lcs_ne (fun h => hxy (hf x (by simp) y (by simp) h)), h2, h3]

theorem walk_map {β : Type} [DecidableEq β] (f : α → β) (a : List α) : ∀ b : List α, (∀ x ∈ a, ∀ y ∈ b, f x = f y → x = y) → walk (a.map f) (b.map f) = walk a b := by
  induction a with
  | nil =>
    intro b _
    induction b with
    | nil => rfl
    | cons y ys ih => simp only [List.map_cons, List.map_nil, walk_nil]; simpa using ih
  | cons x xs iha =>
    intro b
    induction b with
    | nil =>
      intro hf
      have h1 := iha [] (fun u hu v hv => by simp at hv)
      simp only [List.map_cons, List.map_nil, walk_nil'] at h1 ⊢
      rw [h1]
    | cons y ys ihb =>
      intro hf
      have h1 := iha ys (fun u hu v hv => hf u (by simp [hu]) v (by simp [hv]))
      have h2 := iha (y :: ys) (fun u hu v hv => hf u (by simp [hu]) v hv)
      have h3 := ihb (fun u hu v hv => hf u hu v (by simp [hv]))
      have l2 := lcs_map f xs (y :: ys) (fun u hu v hv => hf u (by simp [hu]) v hv)
      have l3 := lcs_map f (x :: xs) ys (fun u hu v hv => hf u hu v (by simp [hv]))
      simp only [List.map_cons] at h1 h2 h3 l2 l3 ⊢
      by_cases hxy : x = y
      · subst hxy
        rw [walk_eq, walk_eq, h1]
      · have hne : f x ≠ f y := fun h => hxy (hf x (by simp) y (by simp) h)
        by_cases hl : lcs (x :: xs) ys ≤ lcs xs (y :: ys)
        · rw [walk_rem hxy hl, walk_rem hne (by rw [l2, l3]; exact hl), h2]
        · rw [walk_add hxy hl, walk_add hne (by rw [l2, l3]; exact hl), h3]
end E
end Go.Proofs.Yteakiielcmgkeaa
