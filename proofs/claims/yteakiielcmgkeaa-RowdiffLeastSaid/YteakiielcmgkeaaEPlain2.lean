/-
  The plain mathematics of layer 16: edits, scripts, what applying them yields. By an AI agent.
-/
import Derived.Test.YteakiielcmgkeaaEPlain
namespace Go.Proofs.Yteakiielcmgkeaa
namespace E

/-- An edit. -/
structure Ed (α : Type) where
  at_ : Int
  del : Int
  ins : List α
deriving DecidableEq

section
variable {α : Type}

/-- The script of steps from index i of the old list on; b is what is left of the new one; cur is the edit that is open. -/
def scr (cur : Option (Ed α)) (i : Nat) (b : List α) : List Nat → List (Ed α)
  | [] => cur.toList
  | s :: ss =>
    if s = 0 then cur.toList ++ scr none (i + 1) b.tail ss
    else if s = 1 then scr (some { cur.getD ⟨i, 0, []⟩ with del := (cur.getD ⟨i, 0, []⟩).del + 1 }) (i + 1) b ss
    else scr (some { cur.getD ⟨i, 0, []⟩ with ins := (cur.getD ⟨i, 0, []⟩).ins ++ b.head?.toList }) i b.tail ss

theorem scr_nil (cur : Option (Ed α)) (i : Nat) (b : List α) : scr cur i b [] = cur.toList := rfl
theorem scr_0 (cur : Option (Ed α)) (i : Nat) (b : List α) (ss : List Nat) : scr cur i b (0 :: ss) = cur.toList ++ scr none (i + 1) b.tail ss := rfl
theorem scr_1 (cur : Option (Ed α)) (i : Nat) (b : List α) (ss : List Nat) : scr cur i b (1 :: ss) = scr (some { cur.getD ⟨i, 0, []⟩ with del := (cur.getD ⟨i, 0, []⟩).del + 1 }) (i + 1) b ss := rfl
theorem scr_2 (cur : Option (Ed α)) (i : Nat) (y : α) (b : List α) (ss : List Nat) : scr cur i (y :: b) (2 :: ss) = scr (some { cur.getD ⟨i, 0, []⟩ with ins := (cur.getD ⟨i, 0, []⟩).ins ++ [y] }) i b ss := rfl

def weight (l : List (Ed α)) : Int := (l.map fun e => e.del + (e.ins.length : Int)).sum
@[simp] theorem weight_nil : weight ([] : List (Ed α)) = 0 := rfl
@[simp] theorem weight_cons (e : Ed α) (l : List (Ed α)) : weight (e :: l) = e.del + e.ins.length + weight l := rfl
theorem weight_append (l m : List (Ed α)) : weight (l ++ m) = weight l + weight m := by simp [weight]

/-- Applying edits from an index on: the list, or the error (2: range; 3: order, as they come). -/
def app (a : List α) : Nat → List (Ed α) → Except Bool (List α)
  | e, [] => .ok (a.drop e)
  | e, x :: l =>
    if x.at_ < 0 ∨ x.del < 0 ∨ (a.length : Int) < x.at_ ∨ (a.length : Int) - x.at_ < x.del then .error true
    else if x.at_ < e then .error false
    else match app a (x.at_ + x.del).toNat l with
      | .ok r => .ok ((a.drop e).take (x.at_ - e).toNat ++ x.ins ++ r)
      | .error u => .error u

theorem app_cons {a : List α} {e : Nat} {x : Ed α} {l : List (Ed α)} (h1 : 0 ≤ x.at_) (h2 : 0 ≤ x.del) (h3 : x.at_ + x.del ≤ a.length) (h4 : (e : Int) ≤ x.at_) :
    app a e (x :: l) = match app a (x.at_ + x.del).toNat l with
      | .ok r => .ok ((a.drop e).take (x.at_ - e).toNat ++ x.ins ++ r)
      | .error u => .error u := by
  rw [app, if_neg (by omega), if_neg (by omega)]

theorem app_ok {a : List α} {e : Nat} {x : Ed α} {l : List (Ed α)} {r : List α} (h : app a e (x :: l) = .ok r) :
    0 ≤ x.at_ ∧ 0 ≤ x.del ∧ x.at_ + x.del ≤ a.length ∧ (e : Int) ≤ x.at_ ∧ ∃ r', app a (x.at_ + x.del).toNat l = .ok r' ∧ r = (a.drop e).take (x.at_ - e).toNat ++ x.ins ++ r' := by
  rw [app] at h
  split at h
  · cases h
  · split at h
    · cases h
    · cases h' : app a (x.at_ + x.del).toNat l with
      | error u => rw [h'] at h; cases h
      | ok r' =>
        rw [h'] at h
        injection h with h
        exact ⟨by omega, by omega, by omega, by omega, r', rfl, h.symm⟩

/-- What is kept is a common sublist. -/
theorem app_kept (a : List α) : ∀ (l : List (Ed α)) (e : Nat) (r : List α), e ≤ a.length → app a e l = .ok r →
    ∃ k, List.Sublist k (a.drop e) ∧ List.Sublist k r ∧ (a.length : Int) - e = k.length + (l.map (·.del)).sum ∧ (r.length : Int) = k.length + (l.map fun x => (x.ins.length : Int)).sum := by
  intro l
  induction l with
  | nil =>
    intro e r he h
    injection h with h
    subst h
    exact ⟨_, List.Sublist.refl _, List.Sublist.refl _, by simp; omega, by simp⟩
  | cons x l ih =>
    intro e r he h
    obtain ⟨h1, h2, h3, h4, r', h5, rfl⟩ := app_ok h
    obtain ⟨k, k1, k2, k3, k4⟩ := ih _ r' (by omega) h5
    refine ⟨(a.drop e).take (x.at_ - e).toNat ++ k, ?_, ?_, ?_, ?_⟩
    · have e1 : a.drop e = (a.drop e).take (x.at_ - e).toNat ++ (a.drop e).drop (x.at_ - e).toNat := (List.take_append_drop _ _).symm
      have e2 : List.Sublist k ((a.drop e).drop (x.at_ - e).toNat) := by
        rw [List.drop_drop]
        refine k1.trans ?_
        have : (x.at_ + x.del).toNat = (e + (x.at_ - e).toNat) + x.del.toNat := by omega
        rw [this, ← List.drop_drop]
        exact List.drop_sublist _ _
      conv => rhs; rw [e1]
      exact (List.Sublist.refl _).append e2
    · rw [List.append_assoc]
      exact (List.Sublist.refl _).append (k2.trans (List.sublist_append_right _ _))
    · simp only [List.length_append, List.length_take, List.length_drop, List.map_cons, List.sum_cons]
      omega
    · simp only [List.length_append, List.length_take, List.length_drop, List.map_cons, List.sum_cons]
      omega

theorem weight_sums (l : List (Ed α)) : weight l = (l.map (·.del)).sum + (l.map fun x => (x.ins.length : Int)).sum := by
  induction l with
  | nil => rfl
  | cons x l ih => simp [ih]; omega
end

variable {α : Type} [DecidableEq α]

def script (a b : List α) : List (Ed α) := scr none 0 b (walk a b)

/-- No edits are cheaper than the distance. -/
theorem app_min {a : List α} {l : List (Ed α)} {r : List α} (h : app a 0 l = .ok r) : (dist a r : Int) ≤ weight l := by
  obtain ⟨k, k1, k2, k3, k4⟩ := app_kept a l 0 r (by omega) h
  rw [List.drop_zero] at k1
  have := lcs_ge a r k k1 k2
  rw [weight_sums, dist_int]
  omega

theorem weight_scr (s : List Nat) : ∀ (cur : Option (Ed α)) (i : Nat) (a b : List α), s = walk a b → weight (scr cur i b s) = weight cur.toList + (cnt 1 s : Nat) + (cnt 2 s : Nat) := by
  suffices H : ∀ a b : List α, ∀ (cur : Option (Ed α)) (i : Nat), weight (scr cur i b (walk a b)) = weight cur.toList + (cnt 1 (walk a b) : Nat) + (cnt 2 (walk a b) : Nat) by
    intro cur i a b h; subst h; exact H a b cur i
  intro a b
  refine walk_ind (P := fun a b s => ∀ (cur : Option (Ed α)) (i : Nat), weight (scr cur i b s) = weight cur.toList + (cnt 1 s : Nat) + (cnt 2 s : Nat)) ?_ ?_ ?_ ?_ a b
  · intro cur i; simp [scr]
  · intro x xs ys s _ ih cur i
    rw [scr_0, weight_append, List.tail_cons, ih]
    simp [cnt_cons]; omega
  · intro x xs b s _ _ _ ih cur i
    rw [scr_1, ih]
    cases cur <;> simp [cnt_cons] <;> omega
  · intro a y ys s _ _ _ ih cur i
    rw [scr_2, ih]
    cases cur <;> simp [cnt_cons] <;> omega

theorem script_weight (a b : List α) : weight (script a b) = dist a b := by
  have h := weight_scr (walk a b) none 0 a b rfl
  have := walk_dist a b
  unfold script
  rw [h]
  simp
  omega

/-- Applying a script. -/
theorem app_scr (A : List α) : ∀ (a b : List α), (∀ (i e : Nat), e ≤ i → i ≤ A.length → A.drop i = a → app A e (scr none i b (walk a b)) = .ok ((A.drop e).take (i - e) ++ b)) ∧
    (∀ (i e : Nat) (c : Ed α), i ≤ A.length → A.drop i = a → (e : Int) ≤ c.at_ → 0 ≤ c.del → c.at_ + c.del = i → app A e (scr (some c) i b (walk a b)) = .ok ((A.drop e).take (c.at_ - e).toNat ++ c.ins ++ b)) := by
  intro a b
  refine walk_ind (P := fun a b s => (∀ (i e : Nat), e ≤ i → i ≤ A.length → A.drop i = a → app A e (scr none i b s) = .ok ((A.drop e).take (i - e) ++ b)) ∧
    (∀ (i e : Nat) (c : Ed α), i ≤ A.length → A.drop i = a → (e : Int) ≤ c.at_ → 0 ≤ c.del → c.at_ + c.del = i → app A e (scr (some c) i b s) = .ok ((A.drop e).take (c.at_ - e).toNat ++ c.ins ++ b))) ?_ ?_ ?_ ?_ a b
  · refine ⟨fun i e he hi ha => ?_, fun i e c hi ha he hd hc => ?_⟩
    · have hl : A.length ≤ i := by have := congrArg List.length ha; simp at this; omega
      rw [scr_nil]
      show Except.ok (A.drop e) = _
      rw [List.take_of_length_le (by simp; omega)]
      simp
    · rw [scr_nil]
      show app A e [c] = _
      rw [app_cons (by omega) hd (by omega) he]
      have : (c.at_ + c.del).toNat = i := by omega
      rw [this]
      show Except.ok (_ ++ A.drop i) = _
      rw [ha]
  · rintro x xs ys s - ⟨ih, -⟩
    have key : ∀ (i e : Nat), e ≤ i → i ≤ A.length → A.drop i = x :: xs → app A e (scr none (i + 1) ys s) = .ok ((A.drop e).take (i - e) ++ x :: ys) := by
      intro i e he hi ha
      have hlt : i < A.length := by have := congrArg List.length ha; simp at this; omega
      have hx : A.drop (i + 1) = xs := by rw [← List.drop_drop, ha]; rfl
      rw [ih (i + 1) e (by omega) (by omega) hx]
      have hg : (A.drop e)[i - e]? = some x := by
        rw [List.getElem?_drop, show e + (i - e) = i by omega]
        have := congrArg (·[0]?) ha
        simpa using this
      rw [show i + 1 - e = (i - e) + 1 by omega, List.take_add_one, hg]
      simp
    refine ⟨fun i e he hi ha => ?_, fun i e c hi ha he hd hc => ?_⟩
    · rw [scr_0]
      exact key i e he hi ha
    · rw [scr_0]
      show app A e (c :: scr none (i + 1) ys s) = _
      rw [app_cons (by omega) hd (by omega) he]
      have : (c.at_ + c.del).toNat = i := by omega
      rw [this, key i i (Nat.le_refl _) hi ha]
      simp
  · rintro x xs b s - - - ⟨-, ih⟩
    refine ⟨fun i e he hi ha => ?_, fun i e c hi ha he hd hc => ?_⟩
    all_goals
      have hlt : i < A.length := by have := congrArg List.length ha; simp at this; omega
      have hx : A.drop (i + 1) = xs := by rw [← List.drop_drop, ha]; rfl
      rw [scr_1, ih (i + 1) e _ (by omega) hx (by simp; omega) (by simp; try omega) (by simp; try omega)]
      simp
  · rintro a y ys s - - - ⟨-, ih⟩
    refine ⟨fun i e he hi ha => ?_, fun i e c hi ha he hd hc => ?_⟩
    all_goals
      rw [scr_2, ih i e _ hi ha (by simp; omega) (by simp; try omega) (by simp; try omega)]
      simp

theorem app_script (a b : List α) : app a 0 (script a b) = .ok b := by
  have := (app_scr a a b).1 0 0 (Nat.le_refl _) (Nat.zero_le _) (by simp)
  simpa [script] using this

/-! Shifting and renaming. -/
def Ed.shift (k : Int) (e : Ed α) : Ed α := { e with at_ := e.at_ + k }
omit [DecidableEq α] in
theorem scr_shift (k : Nat) (s : List Nat) : ∀ (cur : Option (Ed α)) (i : Nat) (b : List α), scr (cur.map (Ed.shift k)) (i + k) b s = (scr cur i b s).map (Ed.shift k) := by
  induction s with
  | nil => intro cur i b; cases cur <;> rfl
  | cons x s ih =>
    intro cur i b
    simp only [scr]
    split
    · have h := ih none (i + 1) b.tail
      simp only [Option.map_none] at h
      rw [List.map_append, ← h, show i + 1 + k = i + k + 1 by omega]
      cases cur <;> rfl
    · split
      · rw [← ih _ (i + 1) b, show i + 1 + k = i + k + 1 by omega]
        cases cur <;> simp [Ed.shift]
      · rw [← ih _ i b.tail]
        cases cur <;> simp [Ed.shift]

omit [DecidableEq α] in
theorem scr_zeros (c : List α) (s : List Nat) : ∀ (i : Nat) (b : List α), scr none i (c ++ b) (c.map (fun _ => 0) ++ s) = scr none (i + c.length) b s := by
  induction c with
  | nil => intro i b; simp
  | cons x c ih =>
    intro i b
    simp only [List.map_cons, List.cons_append, scr_0, List.tail_cons, ih]
    simp [Nat.add_assoc, Nat.add_comm 1]

theorem script_front (c a b : List α) : script (c ++ a) (c ++ b) = (script a b).map (Ed.shift c.length) := by
  have h := scr_shift c.length (walk a b) (none : Option (Ed α)) 0 b
  simp only [Option.map_none] at h
  unfold script
  rw [walk_front, scr_zeros, h]

def Ed.ren {β : Type} (f : α → β) (e : Ed α) : Ed β := ⟨e.at_, e.del, e.ins.map f⟩
omit [DecidableEq α] in
theorem scr_map {β : Type} (f : α → β) (s : List Nat) : ∀ (cur : Option (Ed α)) (i : Nat) (b : List α), scr (cur.map (Ed.ren f)) i (b.map f) s = (scr cur i b s).map (Ed.ren f) := by
  induction s with
  | nil => intro cur i b; cases cur <;> rfl
  | cons x s ih =>
    intro cur i b
    simp only [scr]
    split
    · have h := ih none (i + 1) b.tail
      simp only [Option.map_none] at h
      rw [List.map_append, ← h, List.map_tail]
      cases cur <;> rfl
    · split
      · rw [← ih _ (i + 1) b]
        cases cur <;> simp [Ed.ren]
      · rw [← ih _ i b.tail, List.map_tail]
        cases cur <;> cases b <;> simp [Ed.ren]

theorem script_map {β : Type} [DecidableEq β] (f : α → β) (a b : List α) (hf : ∀ x ∈ a, ∀ y ∈ b, f x = f y → x = y) : script (a.map f) (b.map f) = (script a b).map (Ed.ren f) := by
  unfold script
  rw [walk_map f a b hf]
  exact scr_map f _ none 0 b

/-- Edits from 'lo' on, each of some weight, and a kept element between each two. -/
def Good (lo : Int) : List (Ed α) → Prop
  | [] => True
  | e :: l => lo ≤ e.at_ ∧ 0 ≤ e.del ∧ 0 < e.del + e.ins.length ∧ Good (e.at_ + e.del + 1) l

omit [DecidableEq α] in
theorem good_le {l : List (Ed α)} {lo lo' : Int} (h : Good lo l) (hl : lo' ≤ lo) : Good lo' l := by
  cases l with
  | nil => trivial
  | cons e l => exact ⟨Int.le_trans hl h.1, h.2⟩

theorem good_scr : ∀ (a b : List α), (∀ i : Nat, Good (i : Int) (scr none i b (walk a b))) ∧ (∀ (i : Nat) (c : Ed α) (lo : Int), lo ≤ c.at_ → c.at_ + c.del = i → 0 ≤ c.del → 0 < c.del + c.ins.length → Good lo (scr (some c) i b (walk a b))) := by
  intro a b
  refine walk_ind (P := fun a b s => (∀ i : Nat, Good (i : Int) (scr none i b s)) ∧ (∀ (i : Nat) (c : Ed α) (lo : Int), lo ≤ c.at_ → c.at_ + c.del = i → 0 ≤ c.del → 0 < c.del + c.ins.length → Good lo (scr (some c) i b s))) ?_ ?_ ?_ ?_ a b
  · exact ⟨fun i => trivial, fun i c lo h1 h2 h3 h4 => ⟨h1, h3, h4, trivial⟩⟩
  · rintro x xs ys s - ⟨ih, -⟩
    refine ⟨fun i => ?_, fun i c lo h1 h2 h3 h4 => ?_⟩
    · rw [scr_0]
      exact good_le (ih (i + 1)) (by omega)
    · rw [scr_0]
      refine ⟨h1, h3, h4, ?_⟩
      rw [h2]
      exact good_le (ih (i + 1)) (by omega)
  · rintro x xs b s - - - ⟨-, ih⟩
    refine ⟨fun i => ?_, fun i c lo h1 h2 h3 h4 => ?_⟩
    · rw [scr_1]
      exact ih (i + 1) _ _ (by simp) (by simp) (by simp) (by simp)
    · rw [scr_1]
      exact ih (i + 1) _ _ (by simpa using h1) (by simp; omega) (by simp; omega) (by simp; omega)
  · rintro a y ys s - - - ⟨-, ih⟩
    refine ⟨fun i => ?_, fun i c lo h1 h2 h3 h4 => ?_⟩
    · rw [scr_2]
      exact ih i _ _ (by simp) (by simp) (by simp) (by simp)
    · rw [scr_2]
      exact ih i _ _ (by simpa using h1) (by simpa using h2) (by simpa using h3) (by simp; omega)

theorem script_good (a b : List α) : Good 0 (script a b) := by
  have := (good_scr a b).1 0
  simpa [script] using this

/-! Common subsequences. -/
def cm : List α → List Nat → List α
  | _, [] => []
  | a, s :: ss => if s = 0 then a.head?.toList ++ cm a.tail ss else if s = 1 then cm a.tail ss else cm a ss

def common (a b : List α) : List α := cm a (walk a b)

theorem common_spec (a b : List α) : List.Sublist (common a b) a ∧ List.Sublist (common a b) b ∧ (common a b).length = lcs a b := by
  refine walk_ind (P := fun a b s => List.Sublist (cm a s) a ∧ List.Sublist (cm a s) b ∧ (cm a s).length = lcs a b) ?_ ?_ ?_ ?_ a b
  · exact ⟨List.Sublist.refl _, List.Sublist.refl _, rfl⟩
  · rintro x xs ys s - ⟨h1, h2, h3⟩
    have e : cm (x :: xs) (0 :: s) = x :: cm xs s := rfl
    rw [e, lcs_eq]
    exact ⟨h1.cons_cons x, h2.cons_cons x, by simp [h3]; omega⟩
  · rintro x xs b s - - hl ⟨h1, h2, h3⟩
    have e : cm (x :: xs) (1 :: s) = cm xs s := rfl
    rw [e, hl]
    exact ⟨h1.cons x, h2, h3⟩
  · rintro a y ys s - - hl ⟨h1, h2, h3⟩
    have e : cm a (2 :: s) = cm a s := rfl
    rw [e, hl]
    exact ⟨h1, h2.cons y, h3⟩

/-- Scanning a list for a subsequence. -/
def scan : List α → List α → Nat
  | _, [] => 0
  | [], _ :: _ => 0
  | c :: cs, x :: xs => if c = x then scan cs xs + 1 else scan (c :: cs) xs

theorem scan_le (c a : List α) : scan c a ≤ c.length := by
  induction a generalizing c with
  | nil => simp [scan]
  | cons x xs ih =>
    cases c with
    | nil => simp [scan]
    | cons y ys =>
      simp only [scan]
      split
      · have := ih ys; simp; omega
      · exact ih _

theorem scan_sub {c a : List α} (h : List.Sublist c a) : scan c a = c.length := by
  induction a generalizing c with
  | nil => have := List.sublist_nil.1 h; subst this; rfl
  | cons x xs ih =>
    cases c with
    | nil => rfl
    | cons y ys =>
      simp only [scan]
      split
      · rename_i hxy
        subst hxy
        have : List.Sublist ys xs := by simpa using h.tail
        rw [ih this]; rfl
      · rename_i hxy
        cases h with
        | cons _ h => exact ih h
        | cons_cons _ h => exact absurd rfl hxy
end E
end Go.Proofs.Yteakiielcmgkeaa
