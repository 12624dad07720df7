/-
  The plain mathematics of layer 44 (the queue of utterances): what is spoken when. By an AI agent.
-/
namespace Go.Proofs.Ytfjkelngdljikaa
namespace Q
variable {U : Type} (af du : U → Int)

/-- What is being spoken (the utterance, when it began, when it ends), and what waits. -/
structure St (U : Type) where
  sp : Option (U × Int × Int)
  items : List U

/-- From a time at which nothing is being spoken. -/
def runI (time : Int) : Int → List U → St U × List (U × Int × Int)
  | _, [] => (⟨none, []⟩, [])
  | now, u :: l =>
    if time < max now (af u) then (⟨none, u :: l⟩, [])
    else if time < max now (af u) + du u then (⟨some (u, max now (af u), max now (af u) + du u), l⟩, [])
    else ((runI time (max now (af u) + du u) l).1, (u, max now (af u), max now (af u) + du u) :: (runI time (max now (af u) + du u) l).2)

def adv (clock : Int) (s : St U) (time : Int) : St U × List (U × Int × Int) :=
  match s.sp with
  | none => runI af du time clock s.items
  | some x => if time < x.2.2 then (s, []) else ((runI af du time x.2.2 s.items).1, x :: (runI af du time x.2.2 s.items).2)

theorem runI_wait {time now : Int} {u : U} {l : List U} (h : time < max now (af u)) : runI af du time now (u :: l) = (⟨none, u :: l⟩, []) := by
  rw [runI, if_pos h]
theorem runI_speak {time now : Int} {u : U} {l : List U} (h : max now (af u) ≤ time) (h' : time < max now (af u) + du u) : runI af du time now (u :: l) = (⟨some (u, max now (af u), max now (af u) + du u), l⟩, []) := by
  rw [runI, if_neg (by omega), if_pos h']
theorem runI_done {time now : Int} {u : U} {l : List U} (h : max now (af u) ≤ time) (h' : max now (af u) + du u ≤ time) : runI af du time now (u :: l) =
    ((runI af du time (max now (af u) + du u) l).1, (u, max now (af u), max now (af u) + du u) :: (runI af du time (max now (af u) + du u) l).2) := by
  rw [runI, if_neg (by omega), if_neg (by omega)]

/-- In two steps. -/
theorem runI_steps {s t : Int} (hst : s ≤ t) : ∀ (l : List U) (now : Int), now ≤ s →
    runI af du t now l = ((adv af du s (runI af du s now l).1 t).1, (runI af du s now l).2 ++ (adv af du s (runI af du s now l).1 t).2) := by
  intro l
  induction l with
  | nil => intro now _; rfl
  | cons u l ih =>
    intro now hn
    by_cases h1 : s < max now (af u)
    · rw [runI_wait af du h1]
      have e : max now (af u) = max s (af u) := by omega
      show _ = ((runI af du t s (u :: l)).1, [] ++ (runI af du t s (u :: l)).2)
      rw [runI, runI, e]
      rfl
    · by_cases h2 : s < max now (af u) + du u
      · rw [runI_speak af du (by omega) h2]
        by_cases h3 : t < max now (af u) + du u
        · rw [runI_speak af du (by omega) h3]
          simp [adv, h3]
        · rw [runI_done af du (by omega) (by omega)]
          simp [adv, h3]
      · rw [runI_done af du (by omega) (by omega), runI_done af du (by omega) (by omega), ih _ (by omega)]
        rfl

theorem adv_steps {clock s t : Int} (hc : clock ≤ s) (hst : s ≤ t) (x : St U) :
    adv af du clock x t = ((adv af du s (adv af du clock x s).1 t).1, (adv af du clock x s).2 ++ (adv af du s (adv af du clock x s).1 t).2) := by
  obtain ⟨sp, items⟩ := x
  cases sp with
  | none => exact runI_steps af du hst items clock hc
  | some y =>
    by_cases h1 : s < y.2.2
    · simp [adv, h1]
    · have h2 : ¬ t < y.2.2 := by omega
      have h := runI_steps af du hst items y.2.2 (by omega)
      simp only [adv, h1, h2, if_false]
      rw [h]
      rfl

/-- Proper at a time. -/
def Right (clock : Int) (x : St U) : Prop :=
  (∀ y, x.sp = some y → af y.1 ≤ y.2.1 ∧ y.2.1 ≤ clock ∧ clock < y.2.2) ∧ (x.sp = none → ∀ u l, x.items = u :: l → clock < af u)

theorem runI_right {time : Int} : ∀ (l : List U) (now : Int), now ≤ time → Right af time (runI af du time now l).1 := by
  intro l
  induction l with
  | nil => intro now _; exact ⟨(fun y h => by cases h), fun _ u l h => by cases h⟩
  | cons u l ih =>
    intro now hn
    by_cases h1 : time < max now (af u)
    · rw [runI_wait af du h1]
      exact ⟨(fun y h => by cases h), fun _ u' l' h => by injection h with h _; subst h; omega⟩
    · by_cases h2 : time < max now (af u) + du u
      · rw [runI_speak af du (by omega) h2]
        exact ⟨(fun y h => by injection h with h; subst h; simp only; omega), (fun h => by cases h)⟩
      · rw [runI_done af du (by omega) (by omega)]
        exact ih _ (by omega)
theorem adv_right {clock time : Int} (hc : clock ≤ time) (x : St U) (hx : Right af clock x) : Right af time (adv af du clock x time).1 := by
  obtain ⟨sp, items⟩ := x
  cases sp with
  | none => exact runI_right af du items clock hc
  | some y =>
    have := hx.1 y rfl
    by_cases h1 : time < y.2.2
    · simp only [adv, h1, if_true]
      exact ⟨(fun y' h => by injection h with h; subst h; omega), (fun h => by cases h)⟩
    · simp only [adv, h1, if_false]
      exact runI_right af du items _ (by omega)

/-- What is spoken, and what is left: nothing is lost, nothing is new. -/
def left (x : St U) : List U := (x.sp.map (·.1)).toList ++ x.items
theorem runI_left (time : Int) : ∀ (l : List U) (now : Int), (runI af du time now l).2.map (·.1) ++ left (runI af du time now l).1 = l := by
  intro l
  induction l with
  | nil => intro now; rfl
  | cons u l ih =>
    intro now
    by_cases h1 : time < max now (af u)
    · rw [runI_wait af du h1]; rfl
    · by_cases h2 : time < max now (af u) + du u
      · rw [runI_speak af du (by omega) h2]; rfl
      · rw [runI_done af du (by omega) (by omega)]
        simp only [List.map_cons, List.cons_append, ih]
theorem adv_left (clock time : Int) (x : St U) : (adv af du clock x time).2.map (·.1) ++ left (adv af du clock x time).1 = left x := by
  obtain ⟨sp, items⟩ := x
  cases sp with
  | none => simpa [left, adv] using runI_left af du time items clock
  | some y =>
    by_cases h1 : time < y.2.2
    · simp [adv, h1]
    · simp only [adv, h1, if_false, List.map_cons, List.cons_append, runI_left]
      rfl

/-- When it is spoken. -/
def Chain (time : Int) : Int → List (U × Int × Int) → Prop
  | _, [] => True
  | now, x :: l => x.2.1 = max now (af x.1) ∧ x.2.2 = max now (af x.1) + du x.1 ∧ x.2.2 ≤ time ∧ Chain time x.2.2 l
theorem runI_chain (time : Int) : ∀ (l : List U) (now : Int), Chain af du time now (runI af du time now l).2 := by
  intro l
  induction l with
  | nil => intro now; trivial
  | cons u l ih =>
    intro now
    by_cases h1 : time < max now (af u)
    · rw [runI_wait af du h1]; trivial
    · by_cases h2 : time < max now (af u) + du u
      · rw [runI_speak af du (by omega) h2]; trivial
      · rw [runI_done af du (by omega) (by omega)]
        exact ⟨rfl, rfl, by simp only; omega, ih _⟩

/-- The end of all. -/
def rest : Int → List U → Int
  | now, [] => now
  | now, u :: l => rest (max now (af u) + du u) l
theorem rest_ge (hd : ∀ u, 0 ≤ du u) : ∀ (l : List U) (now : Int), now ≤ rest af du now l := by
  intro l
  induction l with
  | nil => intro now; exact Int.le_refl _
  | cons u l ih =>
    intro now
    have h1 := ih (max now (af u) + du u)
    have h2 := hd u
    simp only [rest]
    omega
theorem rest_append (l m : List U) : ∀ now : Int, rest af du now (l ++ m) = rest af du (rest af du now l) m := by
  induction l with
  | nil => intro now; rfl
  | cons u l ih => intro now; simp only [List.cons_append, rest, ih]

theorem runI_rest (hd : ∀ u, 0 ≤ du u) {time : Int} : ∀ (l : List U) (now : Int), now ≤ time →
    (rest af du now l ≤ time → (runI af du time now l).1 = ⟨none, []⟩ ∧ (runI af du time now l).2.length = l.length) ∧
    (time < rest af du now l → left (runI af du time now l).1 ≠ []) := by
  intro l
  induction l with
  | nil => intro now hn; exact ⟨fun _ => ⟨rfl, rfl⟩, (fun h => by simp only [rest] at h; omega)⟩
  | cons u l ih =>
    intro now hn
    have h0 := rest_ge af du hd l (max now (af u) + du u)
    have hu := hd u
    by_cases h1 : time < max now (af u)
    · rw [runI_wait af du h1]
      simp only [rest]
      exact ⟨(fun h => by omega), fun _ => by simp [left]⟩
    · by_cases h2 : time < max now (af u) + du u
      · rw [runI_speak af du (by omega) h2]
        simp only [rest]
        exact ⟨(fun h => by omega), fun _ => by simp [left]⟩
      · rw [runI_done af du (by omega) (by omega)]
        obtain ⟨i1, i2⟩ := ih (max now (af u) + du u) (by omega)
        simp only [rest]
        exact ⟨fun h => ⟨(i1 h).1, by simp [(i1 h).2]⟩, i2⟩

def restS (clock : Int) (x : St U) : Int := rest af du (match x.sp with | none => clock | some y => y.2.2) x.items

theorem adv_rest (hd : ∀ u, 0 ≤ du u) {clock time : Int} (x : St U) (hx : Right af clock x) (hc : clock ≤ time) :
    (restS af du clock x ≤ time → (adv af du clock x time).1 = ⟨none, []⟩ ∧ (adv af du clock x time).2.length = (left x).length) ∧
    (time < restS af du clock x → left (adv af du clock x time).1 ≠ []) := by
  obtain ⟨sp, items⟩ := x
  cases sp with
  | none => simpa [restS, adv, left] using runI_rest af du hd items clock hc
  | some y =>
    have hy := hx.1 y rfl
    by_cases h1 : time < y.2.2
    · have := rest_ge af du hd items y.2.2
      simp only [restS, adv, h1, if_true]
      exact ⟨(fun h => by omega), fun _ => by simp [left]⟩
    · have := runI_rest af du hd (time := time) items y.2.2 (by omega)
      simp only [restS, adv, h1, if_false]
      refine ⟨fun h => ⟨(this.1 h).1, ?_⟩, this.2⟩
      simp [left, (this.1 h).2]

theorem restS_gt (hd : ∀ u, 0 < du u) {clock : Int} (x : St U) (hx : Right af clock x) : clock ≤ restS af du clock x ∧ (left x ≠ [] → clock < restS af du clock x) := by
  obtain ⟨sp, items⟩ := x
  have hd' : ∀ u, 0 ≤ du u := fun u => Int.le_of_lt (hd u)
  cases sp with
  | none =>
    cases items with
    | nil => exact ⟨Int.le_refl _, fun h => absurd rfl h⟩
    | cons u l =>
      have h1 := rest_ge af du hd' l (max clock (af u) + du u)
      have h2 := hd u
      simp only [restS, rest]
      exact ⟨by omega, fun _ => by omega⟩
  | some y =>
    have hy := hx.1 y rfl
    have h1 := rest_ge af du hd' items y.2.2
    simp only [restS]
    exact ⟨by omega, fun _ => by omega⟩

/-- Further utterances. -/
theorem runI_prefix (time : Int) (m : List U) : ∀ (l : List U) (now : Int), List.IsPrefix (runI af du time now l).2 (runI af du time now (l ++ m)).2 := by
  intro l
  induction l with
  | nil => intro now; exact List.nil_prefix
  | cons u l ih =>
    intro now
    rw [List.cons_append]
    by_cases h1 : time < max now (af u)
    · rw [runI_wait af du h1]; exact List.nil_prefix
    · by_cases h2 : time < max now (af u) + du u
      · rw [runI_speak af du (by omega) h2]; exact List.nil_prefix
      · rw [runI_done af du (by omega) (by omega), runI_done af du (by omega) (by omega)]
        exact (List.cons_prefix_cons).2 ⟨rfl, ih _⟩

/-- The first waiting utterance begins, if it may. -/
def settle (clock : Int) (x : St U) : St U :=
  match x.sp, x.items with
  | none, u :: l => if af u ≤ clock then ⟨some (u, clock, clock + du u), l⟩ else x
  | _, _ => x

theorem settle_adv {clock time : Int} (hc : clock ≤ time) (x : St U) : adv af du clock (settle af du clock x) time = adv af du clock x time := by
  obtain ⟨sp, items⟩ := x
  cases sp with
  | some y => rfl
  | none =>
    cases items with
    | nil => rfl
    | cons u l =>
      unfold settle
      by_cases h : af u ≤ clock
      · simp only [h, if_true]
        have e : max clock (af u) = clock := by omega
        by_cases h2 : time < clock + du u
        · simp only [adv, h2, if_true]
          rw [runI_speak af du (by omega) (by omega), e]
        · simp only [adv, h2, if_false]
          rw [runI_done af du (by omega) (by omega), e]
      · simp only [h, if_false]

theorem settle_rest (clock : Int) (x : St U) : restS af du clock (settle af du clock x) = restS af du clock x := by
  obtain ⟨sp, items⟩ := x
  cases sp with
  | some y => rfl
  | none =>
    cases items with
    | nil => rfl
    | cons u l =>
      unfold settle
      by_cases h : af u ≤ clock
      · have e : max clock (af u) = clock := by omega
        simp only [h, if_true, restS, rest, e]
      · simp only [h, if_false]

theorem settle_right (hd : ∀ u, 0 < du u) {clock : Int} (x : St U) (hx : ∀ y, x.sp = some y → af y.1 ≤ y.2.1 ∧ y.2.1 ≤ clock ∧ clock < y.2.2) : Right af clock (settle af du clock x) := by
  obtain ⟨sp, items⟩ := x
  cases sp with
  | some y => exact ⟨hx, fun h => by cases h⟩
  | none =>
    cases items with
    | nil => exact ⟨(fun y h => by cases h), fun _ u l h => by cases h⟩
    | cons u l =>
      unfold settle
      by_cases h : af u ≤ clock
      · simp only [h, if_true]
        refine ⟨fun y hy => ?_, fun h => by cases h⟩
        injection hy with hy
        subst hy
        have := hd u
        exact ⟨h, Int.le_refl _, by simp only; omega⟩
      · simp only [h, if_false]
        exact ⟨(fun y h => by cases h), fun _ u' l' hh => by injection hh with hh _; subst hh; omega⟩

/-- All times later by the same amount. -/
theorem runI_shift {V : Type} (f : U → V) (af' du' : V → Int) (by_ : Int) (h1 : ∀ u, af' (f u) = af u + by_) (h2 : ∀ u, du' (f u) = du u) (time : Int) : ∀ (l : List U) (now : Int),
    runI af' du' (time + by_) (now + by_) (l.map f) = (⟨(runI af du time now l).1.sp.map fun y => (f y.1, y.2.1 + by_, y.2.2 + by_), (runI af du time now l).1.items.map f⟩, (runI af du time now l).2.map fun y => (f y.1, y.2.1 + by_, y.2.2 + by_)) := by
  intro l
  induction l with
  | nil => intro now; rfl
  | cons u l ih =>
    intro now
    have e : max (now + by_) (af' (f u)) = max now (af u) + by_ := by rw [h1]; omega
    have e2 : max now (af u) + by_ + du u = max now (af u) + du u + by_ := by omega
    rw [List.map_cons]
    by_cases c1 : time < max now (af u)
    · rw [runI_wait af' du' (by omega), runI_wait af du c1]; rfl
    · by_cases c2 : time < max now (af u) + du u
      · rw [runI_speak af' du' (by omega) (by rw [h2]; omega), runI_speak af du (by omega) c2, e, h2, e2]; rfl
      · rw [runI_done af' du' (by omega) (by rw [h2]; omega), runI_done af du (by omega) (by omega), e, h2, e2, ih]; rfl

theorem adv_shift {V : Type} (f : U → V) (af' du' : V → Int) (by_ : Int) (h1 : ∀ u, af' (f u) = af u + by_) (h2 : ∀ u, du' (f u) = du u) (clock time : Int) (x : St U) :
    adv af' du' (clock + by_) ⟨x.sp.map fun y => (f y.1, y.2.1 + by_, y.2.2 + by_), x.items.map f⟩ (time + by_) =
      (⟨(adv af du clock x time).1.sp.map fun y => (f y.1, y.2.1 + by_, y.2.2 + by_), (adv af du clock x time).1.items.map f⟩, (adv af du clock x time).2.map fun y => (f y.1, y.2.1 + by_, y.2.2 + by_)) := by
  obtain ⟨sp, items⟩ := x
  cases sp with
  | none => exact runI_shift af du f af' du' by_ h1 h2 time items clock
  | some y =>
    by_cases c : time < y.2.2
    · have c' : time + by_ < y.2.2 + by_ := by omega
      simp [adv, c, c']
    · have c' : ¬ time + by_ < y.2.2 + by_ := by omega
      simp only [adv, c, if_false, Option.map_some, c']
      rw [runI_shift af du f af' du' by_ h1 h2 time items y.2.2]
      rfl

/-- The rest, as the program and the reference count it: not beyond a bound. -/
theorem rest_min (hd : ∀ u, 0 ≤ du u) {M : Int} : ∀ (l : List U) (now : Int), M < now → min (rest af du now l) M = M := by
  intro l now h
  have := rest_ge af du hd l now
  omega
end Q
end Go.Proofs.Ytfjkelngdljikaa
