/-
  The plain mathematics of layer 29: other columns along tight edges, the least assignment. By an AI agent.
-/
import Derived.Test.YtoemhphgnpedmaaAPlain2
namespace Go.Proofs.Ytoemhphgnpedmaa
namespace A

/-- A permutation of 1 .. n. -/
structure Pf (n : Nat) (N : Nat → Nat) : Prop where
  rg : ∀ r, 1 ≤ r → r ≤ n → 1 ≤ N r ∧ N r ≤ n
  inj : ∀ r r', 1 ≤ r → r ≤ n → 1 ≤ r' → r' ≤ n → N r = N r' → r = r'

/-- A perfect matching, both ways. -/
structure PM (n : Nat) (tg : Nat → Nat → Prop) (col p : Nat → Nat) : Prop where
  cr : ∀ r, 1 ≤ r → r ≤ n → 1 ≤ col r ∧ col r ≤ n ∧ p (col r) = r ∧ tg r (col r)
  pc : ∀ j, 1 ≤ j → j ≤ n → 1 ≤ p j ∧ p j ≤ n ∧ col (p j) = j

/-- All rows but h have a column, all columns but f a row. -/
structure Hole (n : Nat) (tg : Nat → Nat → Prop) (col p : Nat → Nat) (h f : Nat) : Prop where
  hr : 1 ≤ h ∧ h ≤ n
  fr : 1 ≤ f ∧ f ≤ n
  cr : ∀ r, 1 ≤ r → r ≤ n → r ≠ h → 1 ≤ col r ∧ col r ≤ n ∧ col r ≠ f ∧ p (col r) = r ∧ tg r (col r)
  pc : ∀ j, 1 ≤ j → j ≤ n → j ≠ f → 1 ≤ p j ∧ p j ≤ n ∧ p j ≠ h ∧ col (p j) = j

/-- A path of columns from a row to the free one. -/
inductive Aug (n : Nat) (tg : Nat → Nat → Prop) (p : Nat → Nat) (fx fr : Nat) : (Nat → Bool) → Nat → List Nat → Prop
  | last {vis : Nat → Bool} {r : Nat} : 1 ≤ fr → fr ≤ n → vis fr = false → tg r fr → Aug n tg p fx fr vis r [fr]
  | step {vis : Nat → Bool} {r j : Nat} {cs : List Nat} : 1 ≤ j → j ≤ n → vis j = false → tg r j → j ≠ fr → fx < p j → Aug n tg p fx fr (upd vis j true) (p j) cs → Aug n tg p fx fr vis r (j :: cs)

/-- The owners, and the columns, along a path. -/
def putP (p0 : Nat → Nat) : Nat → List Nat → (Nat → Nat) → Nat → Nat
  | _, [], q => q
  | r, j :: cs, q => upd (putP p0 (p0 j) cs q) j r
def putC (p0 : Nat → Nat) : Nat → List Nat → (Nat → Nat) → Nat → Nat
  | _, [], q => q
  | r, j :: cs, q => upd (putC p0 (p0 j) cs q) r j

theorem upd_comm {α : Type} (f : Nat → α) {i j : Nat} (x y : α) (h : i ≠ j) : upd (upd f i x) j y = upd (upd f j y) i x := by
  funext k
  unfold upd
  by_cases h1 : k = i
  · by_cases h2 : k = j
    · omega
    · simp [h1, h]
  · simp [h1]

section
variable {n : Nat} {tg : Nat → Nat → Prop} {p : Nat → Nat} {fx fr : Nat}

theorem aug_vis {vis : Nat → Bool} {r : Nat} {cs : List Nat} (h : Aug n tg p fx fr vis r cs) : ∀ j ∈ cs, vis j = false ∧ 1 ≤ j ∧ j ≤ n := by
  induction h with
  | last h1 h2 h3 _ => intro j hj; simp at hj; subst hj; exact ⟨h3, h1, h2⟩
  | step h1 h2 h3 h4 h5 h6 _ ih =>
    intro j hj
    rcases List.mem_cons.1 hj with rfl | hj
    · exact ⟨h3, h1, h2⟩
    · obtain ⟨a, b⟩ := ih j hj
      refine ⟨?_, b⟩
      unfold upd at a
      split at a
      · cases a
      · exact a
theorem aug_congr {p' : Nat → Nat} {vis : Nat → Bool} {r : Nat} {cs : List Nat} (h : Aug n tg p fx fr vis r cs) : (∀ j, vis j = false → p' j = p j) → Aug n tg p' fx fr vis r cs := by
  induction h with
  | last h1 h2 h3 h4 => intro _; exact .last h1 h2 h3 h4
  | @step vis r j cs h1 h2 h3 h4 h5 h6 _ ih =>
    intro hp
    have e := hp j h3
    refine .step h1 h2 h3 h4 h5 (by rw [e]; exact h6) ?_
    rw [e]
    refine ih (fun k hk => hp k ?_)
    unfold upd at hk
    split at hk
    · cases hk
    · exact hk
theorem putP_congr {p1 p2 : Nat → Nat} (cs : List Nat) : ∀ (r : Nat) (q : Nat → Nat), (∀ j ∈ cs, p1 j = p2 j) → putP p1 r cs q = putP p2 r cs q := by
  induction cs with
  | nil => intro r q _; rfl
  | cons j cs ih =>
    intro r q h
    simp only [putP]
    rw [h j (by simp), ih _ q (fun k hk => h k (by simp [hk]))]
theorem putC_congr {p1 p2 : Nat → Nat} (cs : List Nat) : ∀ (r : Nat) (q : Nat → Nat), (∀ j ∈ cs, p1 j = p2 j) → putC p1 r cs q = putC p2 r cs q := by
  induction cs with
  | nil => intro r q _; rfl
  | cons j cs ih =>
    intro r q h
    simp only [putC]
    rw [h j (by simp), ih _ q (fun k hk => h k (by simp [hk]))]
theorem putP_upd {p0 : Nat → Nat} {i x : Nat} (cs : List Nat) : ∀ (r : Nat) (q : Nat → Nat), i ∉ cs → putP p0 r cs (upd q i x) = upd (putP p0 r cs q) i x := by
  induction cs with
  | nil => intro r q _; rfl
  | cons j cs ih =>
    intro r q h
    simp only [List.mem_cons, not_or] at h
    simp only [putP]
    rw [ih _ q h.2, upd_comm _ _ _ h.1]
theorem putC_upd {vis : Nat → Bool} {r : Nat} {cs : List Nat} (h : Aug n tg p fx fr vis r cs) {i x : Nat} (hp : ∀ j, 1 ≤ j → j ≤ n → j ≠ fr → p j ≠ i) : i ≠ r → ∀ q : Nat → Nat, putC p r cs (upd q i x) = upd (putC p r cs q) i x := by
  induction h with
  | last _ _ _ _ => intro hi q; simp only [putC]; rw [upd_comm _ _ _ hi]
  | step h1 h2 h3 h4 h5 h6 _ ih =>
    intro hi q
    simp only [putC]
    rw [ih (fun e => hp _ h1 h2 h5 e.symm) q, upd_comm _ _ _ hi]

/-- Along a path the matching becomes perfect. -/
theorem aug_pm {vis : Nat → Bool} {r : Nat} {cs : List Nat} (h : Aug n tg p fx fr vis r cs) : ∀ (col : Nat → Nat), Hole n tg col p r fr → PM n tg (putC p r cs col) (putP p r cs p) := by
  have main : ∀ (p1 : Nat → Nat) (vis : Nat → Bool) (r : Nat) (cs : List Nat), Aug n tg p1 fx fr vis r cs → ∀ (p : Nat → Nat), p1 = p → ∀ col : Nat → Nat, Hole n tg col p r fr → PM n tg (putC p r cs col) (putP p r cs p) := by
    intro p1 vis r cs h
    -- by the length of the path
    induction hlen : cs.length generalizing p1 vis r cs with
    | zero =>
      have : cs = [] := List.eq_nil_of_length_eq_zero hlen
      subst this
      cases h
    | succ m ih =>
      rintro p rfl col hh
      cases h with
      | last h1 h2 h3 h4 =>
        simp only [putC, putP]
        refine ⟨fun r' a b => ?_, fun j a b => ?_⟩
        · by_cases e : r' = r
          · subst e; simp only [upd_same]; exact ⟨h1, h2, trivial, h4⟩
          · obtain ⟨c1, c2, c3, c4, c5⟩ := hh.cr r' a b e
            rw [upd_ne _ _ e, upd_ne _ _ c3]
            exact ⟨c1, c2, c4, c5⟩
        · by_cases e : j = fr
          · subst e; simp only [upd_same]; exact ⟨hh.hr.1, hh.hr.2, trivial⟩
          · obtain ⟨c1, c2, c3, c4⟩ := hh.pc j a b e
            rw [upd_ne _ _ e, upd_ne _ _ c3]
            exact ⟨c1, c2, c4⟩
      | @step _ _ j cs' h1 h2 h3 h4 h5 h6 h7 =>
        have hj := hh.pc j h1 h2 h5
        have hvis := aug_vis h7
        have hjn : j ∉ cs' := fun hm => by have := (hvis j hm).1; rw [upd_same] at this; cases this
        -- the state behind the first exchange
        have hh' : Hole n tg (upd col r j) (upd p1 j r) (p1 j) fr := by
          refine ⟨⟨hj.1, hj.2.1⟩, hh.fr, fun r' a b e => ?_, fun j' a b e => ?_⟩
          · by_cases er : r' = r
            · subst er; rw [upd_same, upd_same]; exact ⟨h1, h2, h5, rfl, h4⟩
            · obtain ⟨c1, c2, c3, c4, c5⟩ := hh.cr r' a b er
              have : col r' ≠ j := by intro ee; rw [ee] at c4; exact e c4.symm
              rw [upd_ne _ _ er, upd_ne _ _ this]
              exact ⟨c1, c2, c3, c4, c5⟩
          · by_cases ej : j' = j
            · subst ej; rw [upd_same, upd_same]; exact ⟨hh.hr.1, hh.hr.2, fun ee => hj.2.2.1 ee.symm, rfl⟩
            · obtain ⟨c1, c2, c3, c4⟩ := hh.pc j' a b e
              rw [upd_ne _ _ ej, upd_ne _ _ c3]
              exact ⟨c1, c2, fun ee => ej (by rw [← c4, ee, hj.2.2.2]), c4⟩
        have hc : ∀ k ∈ cs', upd p1 j r k = p1 k := fun k hk => upd_ne _ _ (by rintro rfl; exact hjn hk)
        have ha : Aug n tg (upd p1 j r) fx fr (upd vis j true) (p1 j) cs' := aug_congr h7 (fun k hk => upd_ne _ _ (by rintro rfl; rw [upd_same] at hk; cases hk))
        have := ih (upd p1 j r) _ _ cs' ha (by simpa using hlen) (upd p1 j r) rfl (upd col r j) hh'
        have e1 : putP (upd p1 j r) (p1 j) cs' (upd p1 j r) = putP p1 r (j :: cs') p1 := by
          rw [putP_congr cs' _ _ hc, putP_upd cs' _ _ hjn]; rfl
        have e2 : putC (upd p1 j r) (p1 j) cs' (upd col r j) = putC p1 r (j :: cs') col := by
          rw [putC_congr cs' _ _ hc, putC_upd h7 (fun w w1 w2 w3 => (hh.pc w w1 w2 w3).2.2.1) (fun e => hj.2.2.1 e.symm)]; rfl
        rw [e1, e2] at this
        exact this
  exact fun col hh => main p vis r cs h p rfl col hh

/-- Rows up to the fixed one keep their columns. -/
theorem putC_out {vis : Nat → Bool} {r : Nat} {cs : List Nat} (h : Aug n tg p fx fr vis r cs) (hr : fx < r) {i : Nat} (hi : i ≤ fx) : ∀ q : Nat → Nat, putC p r cs q i = q i := by
  induction h with
  | last _ _ _ _ => intro q; simp only [putC]; exact upd_ne _ _ (by omega)
  | step h1 h2 h3 h4 h5 h6 _ ih => intro q; simp only [putC]; rw [upd_ne _ _ (by omega), ih h6]

variable (n tg p fx fr)

/-- No path: what was visited is shut. -/
structure Shut (vis vis' : Nat → Bool) (r : Nat) : Prop where
  sub : ∀ j, vis j = true → vis' j = true
  nf : vis' fr = false
  rg : ∀ w, vis' w = true → vis w = false → 1 ≤ w ∧ w ≤ n ∧ w ≠ fr ∧ fx < p w
  cl : ∀ x, (x = r ∨ ∃ w, vis' w = true ∧ vis w = false ∧ x = p w) → ∀ j, 1 ≤ j → j ≤ n → tg x j → (j = fr ∨ fx < p j) → vis' j = true

/-- The columns of a row below m are looked at. -/
structure Look (vis cur : Nat → Bool) (r m : Nat) : Prop where
  sub : ∀ j, vis j = true → cur j = true
  nf : cur fr = false
  rg : ∀ w, cur w = true → vis w = false → 1 ≤ w ∧ w ≤ n ∧ w ≠ fr ∧ fx < p w
  cl : ∀ w, cur w = true → vis w = false → ∀ j, 1 ≤ j → j ≤ n → tg (p w) j → (j = fr ∨ fx < p j) → cur j = true
  row : ∀ j, 1 ≤ j → j < m → j ≤ n → tg r j → (j = fr ∨ fx < p j) → cur j = true

variable {n tg p fx fr}

theorem look_start {vis : Nat → Bool} (r : Nat) (h : vis fr = false) : Look n tg p fx fr vis vis r 1 where
  sub _ h := h
  nf := h
  rg w h1 h2 := by rw [h1] at h2; cases h2
  cl w h1 h2 := by rw [h1] at h2; cases h2
  row j h1 h2 := by omega
theorem look_skip {vis cur : Nat → Bool} {r m : Nat} (h : Look n tg p fx fr vis cur r m) (hs : cur m = true ∨ ¬ tg r m ∨ (m ≠ fr ∧ p m ≤ fx)) : Look n tg p fx fr vis cur r (m + 1) where
  sub := h.sub
  nf := h.nf
  rg := h.rg
  cl := h.cl
  row j h1 h2 h3 h4 h5 := by
    by_cases e : j = m
    · subst e
      rcases hs with hs | hs | ⟨hs, hs'⟩
      · exact hs
      · exact absurd h4 hs
      · rcases h5 with h5 | h5
        · exact absurd h5 hs
        · omega
    · exact h.row j h1 (by omega) h3 h4 h5
/-- A call that found nothing. -/
theorem look_fail {vis cur cur' : Nat → Bool} {r m : Nat} (h : Look n tg p fx fr vis cur r m) (h1 : 1 ≤ m) (h2 : m ≤ n) (h3 : m ≠ fr) (h4 : fx < p m) (hs : Shut n tg p fx fr (upd cur m true) cur' (p m)) : Look n tg p fx fr vis cur' r (m + 1) where
  sub j hj := hs.sub j (by
    by_cases e : j = m
    · subst e; exact upd_same _ _ _
    · rw [upd_ne _ _ e]; exact h.sub j hj)
  nf := hs.nf
  rg w w1 w2 := by
    by_cases e : upd cur m true w = true
    · by_cases e' : w = m
      · subst e'; exact ⟨h1, h2, h3, h4⟩
      · rw [upd_ne _ _ e'] at e; exact h.rg w e w2
    · exact hs.rg w w1 (by simpa using e)
  cl w w1 w2 j j1 j2 j3 j4 := by
    by_cases e : upd cur m true w = true
    · by_cases e' : w = m
      · subst e'; exact hs.cl _ (.inl rfl) j j1 j2 j3 j4
      · rw [upd_ne _ _ e'] at e
        have := h.cl w e w2 j j1 j2 j3 j4
        exact hs.sub j (by
          by_cases e2 : j = m
          · subst e2; exact upd_same _ _ _
          · rw [upd_ne _ _ e2]; exact this)
    · exact hs.cl _ (.inr ⟨w, w1, by simpa using e, rfl⟩) j j1 j2 j3 j4
  row j j1 j2 j3 j4 j5 := by
    by_cases e : j = m
    · subst e; exact hs.sub _ (upd_same _ _ _)
    · have := h.row j j1 (by omega) j3 j4 j5
      exact hs.sub j (by rw [upd_ne _ _ e]; exact this)
theorem look_end {vis cur : Nat → Bool} {r m : Nat} (h : Look n tg p fx fr vis cur r m) (hm : n < m) : Shut n tg p fx fr vis cur r where
  sub := h.sub
  nf := h.nf
  rg := h.rg
  cl x hx j h1 h2 h3 h4 := by
    rcases hx with rfl | ⟨w, w1, w2, rfl⟩
    · exact h.row j h1 (by omega) h2 h3 h4
    · exact h.cl w w1 w2 j h1 h2 h3 h4

/-- A path found along a step, seen from where the columns were looked at. -/
theorem aug_of_cur {vis cur : Nat → Bool} {r : Nat} {cs : List Nat} (h : Aug n tg p fx fr cur r cs) : (∀ j, vis j = true → cur j = true) → Aug n tg p fx fr vis r cs := by
  intro hs
  induction h generalizing vis with
  | @last cur r h1 h2 h3 h4 =>
    refine .last h1 h2 ?_ h4
    cases hv : vis fr with
    | false => rfl
    | true => rw [hs _ hv] at h3; cases h3
  | @step cur r j cs h1 h2 h3 h4 h5 h6 _ ih =>
    refine .step h1 h2 ?_ h4 h5 h6 (ih fun k hk => ?_)
    · cases hv : vis j with
      | false => rfl
      | true => rw [hs _ hv] at h3; cases h3
    · by_cases e : k = j
      · subst e; exact upd_same _ _ _
      · rw [upd_ne _ _ e] at hk ⊢; exact hs k hk

variable {col : Nat → Nat}

theorem pm_inj (h : PM n tg col p) {r r' : Nat} (h1 : 1 ≤ r) (h2 : r ≤ n) (h3 : 1 ≤ r') (h4 : r' ≤ n) (e : col r = col r') : r = r' := by
  rw [← (h.cr r h1 h2).2.2.1, e, (h.cr r' h3 h4).2.2.1]
theorem pm_pf (h : PM n tg col p) : Pf n col := ⟨fun r h1 h2 => ⟨(h.cr r h1 h2).1, (h.cr r h1 h2).2.1⟩, fun _ _ h1 h2 h3 h4 e => pm_inj h h1 h2 h3 h4 e⟩

/-- A row takes another's column. -/
theorem take_hole (h : PM n tg col p) {R j0 : Nat} (hR : 1 ≤ R ∧ R ≤ n) (hj : 1 ≤ j0 ∧ j0 ≤ n) (hl : R < p j0) (ht : tg R j0) : Hole n tg (upd col R j0) (upd p j0 R) (p j0) (col R) := by
  have hj0 := h.pc j0 hj.1 hj.2
  have hcR := h.cr R hR.1 hR.2
  have hne : j0 ≠ col R := by intro e; rw [e, hcR.2.2.1] at hl; omega
  refine ⟨⟨hj0.1, hj0.2.1⟩, ⟨hcR.1, hcR.2.1⟩, fun r a b e => ?_, fun j a b e => ?_⟩
  · by_cases er : r = R
    · subst er; rw [upd_same, upd_same]; exact ⟨hj.1, hj.2, hne, rfl, ht⟩
    · obtain ⟨c1, c2, c3, c4⟩ := h.cr r a b
      have e1 : col r ≠ j0 := by intro ee; rw [ee] at c3; exact e c3.symm
      rw [upd_ne _ _ er, upd_ne _ _ e1]
      exact ⟨c1, c2, fun ee => er (pm_inj h a b hR.1 hR.2 ee), c3, c4⟩
  · by_cases ej : j = j0
    · subst ej; rw [upd_same, upd_same]; exact ⟨hR.1, hR.2, by omega, rfl⟩
    · obtain ⟨c1, c2, c3⟩ := h.pc j a b
      have e1 : p j ≠ R := by intro ee; rw [ee] at c3; exact e c3.symm
      rw [upd_ne _ _ ej, upd_ne _ _ e1]
      exact ⟨c1, c2, fun ee => ej (by rw [← c3, ee, hj0.2.2]), c3⟩

/-- Where no path was found no matching has that column. -/
theorem shut_none (h : PM n tg col p) {R j0 : Nat} (hR : 1 ≤ R ∧ R ≤ n) (hj : 1 ≤ j0 ∧ j0 ≤ n) (hl : R < p j0)
    {vis' : Nat → Bool} (hs : Shut n tg (upd p j0 R) R (col R) (upd (fun _ => false) j0 true) vis' (p j0))
    {N : Nat → Nat} (hN : Pf n N) (ht : ∀ r, 1 ≤ r → r ≤ n → tg r (N r)) (hag : ∀ r, 1 ≤ r → r < R → N r = col r) : N R ≠ j0 := by
  intro hNR
  have hj0 := h.pc j0 hj.1 hj.2
  -- the columns of the shut set, and their rows
  let V := (nums n).filter fun j => vis' j
  have hV : ∀ j, j ∈ V ↔ (1 ≤ j ∧ j ≤ n) ∧ vis' j = true := by intro j; simp [V, mem_nums]
  have hVn : V.Nodup := (nodup_nums n).filter _
  have hv0 : vis' j0 = true := hs.sub _ (upd_same _ _ _)
  have hbig : ∀ w, w ∈ V → R < p w := by
    intro w hw
    by_cases e : w = j0
    · rw [e]; exact hl
    · have := (hs.rg w ((hV w).1 hw).2 (upd_ne _ _ e)).2.2.2
      rwa [upd_ne _ _ e] at this
  have hstep : ∀ w, w ∈ V → N (p w) ∈ V ∧ N (p w) ≠ j0 := by
    intro w hw
    have hw' := (hV w).1 hw
    have hpw := h.pc w hw'.1.1 hw'.1.2
    have hNw := hN.rg (p w) hpw.1 hpw.2.1
    have hb := hbig w hw
    have hne : N (p w) ≠ j0 := by
      intro e
      have := hN.inj (p w) R hpw.1 hpw.2.1 hR.1 hR.2 (by rw [e, hNR])
      omega
    refine ⟨(hV _).2 ⟨hNw, hs.cl (p w) ?_ _ hNw.1 hNw.2 (ht _ hpw.1 hpw.2.1) ?_⟩, hne⟩
    · by_cases e : w = j0
      · left; rw [e]
      · right; exact ⟨w, hw'.2, upd_ne _ _ e, (upd_ne _ _ e).symm⟩
    · rw [upd_ne _ _ hne]
      have hq := h.pc (N (p w)) hNw.1 hNw.2
      by_cases e1 : p (N (p w)) < R
      · exfalso
        have := hag _ hq.1 e1
        rw [hq.2.2] at this
        have := hN.inj _ _ hq.1 hq.2.1 hpw.1 hpw.2.1 this
        omega
      · by_cases e2 : p (N (p w)) = R
        · left; rw [← hq.2.2, e2]
        · right; omega
  obtain ⟨w, hw, e⟩ := onto (fun w => N (p w)) hVn (fun w hw => (hstep w hw).1) (fun a ha b hb e => by
    have ha' := (hV a).1 ha
    have hb' := (hV b).1 hb
    have pa := h.pc a ha'.1.1 ha'.1.2
    have pb := h.pc b hb'.1.1 hb'.1.2
    have := hN.inj _ _ pa.1 pa.2.1 pb.1 pb.2.1 e
    rw [← pa.2.2, this, pb.2.2]) ((hV j0).2 ⟨hj, hv0⟩)
  exact (hstep w hw).2 e

/-- The least up to a row. -/
def LeastTo (n : Nat) (tg : Nat → Nat → Prop) (col : Nat → Nat) (R : Nat) : Prop :=
  ∀ r, 1 ≤ r → r < R → r ≤ n → ∀ N, Pf n N → (∀ r, 1 ≤ r → r ≤ n → tg r (N r)) → (∀ r', 1 ≤ r' → r' < r → N r' = col r') → col r ≤ N r

theorem least_congr {col' : Nat → Nat} {R : Nat} (h : LeastTo n tg col R) (e : ∀ r, 1 ≤ r → r < R → col' r = col r) : LeastTo n tg col' R := by
  intro r h1 h2 h3 N hN ht hag
  rw [e r h1 h2]
  exact h r h1 h2 h3 N hN ht (fun r' a b => by rw [hag r' a b, e r' a (by omega)])

/-- A column is none of the row's: it is not tight, or a fixed row's, or no path was found. -/
theorem lower_skip (h : PM n tg col p) {R j : Nat} (hR : 1 ≤ R ∧ R ≤ n) (hj : 1 ≤ j ∧ j ≤ n) (hs : ¬ tg R j ∨ p j < R) {N : Nat → Nat} (hN : Pf n N) (ht : ∀ r, 1 ≤ r → r ≤ n → tg r (N r)) (hag : ∀ r, 1 ≤ r → r < R → N r = col r) : N R ≠ j := by
  rintro rfl
  rcases hs with hs | hs
  · exact hs (ht R hR.1 hR.2)
  · have hq := h.pc (N R) hj.1 hj.2
    have := hag _ hq.1 hs
    rw [hq.2.2] at this
    have := hN.inj _ _ hq.1 hq.2.1 hR.1 hR.2 this
    omega
end
end A
end Go.Proofs.Ytoemhphgnpedmaa
