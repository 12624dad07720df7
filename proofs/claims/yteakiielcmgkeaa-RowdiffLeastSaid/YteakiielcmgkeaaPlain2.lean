/-
  The plain mathematics of layer 17: applying splices, the reference's splices, laws. By an AI agent.
-/
import Derived.Test.YteakiielcmgkeaaPlain
namespace Go.Proofs.Yteakiielcmgkeaa
namespace R

section
variable {γ : Type} (bl : γ → Bool) (sp : γ)

/-- What a splice makes of a row, before the blanks at its end go. -/
def body (l : List γ) (c : Ch γ) : List γ := l.take c.col.toNat ++ List.replicate (c.col.toNat - l.length) sp ++ c.gl ++ l.drop (c.col + c.count).toNat

/-- A row after a change of the right kind; none: out of range. -/
def apply (l : List γ) (c : Ch γ) : Option (List γ) :=
  if c.col < 0 ∨ c.count < 0 ∨ 264 < c.col ∨ max 0 ((l.length : Int) - c.col) < c.count then none else some (trimEnd bl (body sp l c))

def applyAll : List γ → List (Ch γ) → Option (List γ)
  | l, [] => some l
  | l, c :: cs => match apply bl sp l c with
    | none => none
    | some m => applyAll m cs

theorem body_at {P S ins : List γ} {at_ del : Nat} {c : Ch γ} (hc : c.col = (P.length : Int) + at_) (hd : c.count = del) (hg : c.gl = ins) (h : at_ + del ≤ S.length) :
    body sp (P ++ S) c = P ++ S.take at_ ++ ins ++ S.drop (at_ + del) := by
  have e1 : c.col.toNat = P.length + at_ := by omega
  have e2 : (c.col + c.count).toNat = P.length + (at_ + del) := by omega
  unfold body
  rw [e1, e2, hg, List.take_length_add_append, List.drop_length_add_append]
  rw [show P.length + at_ - (P ++ S).length = 0 by simp; omega]
  simp

variable [DecidableEq γ]

/-- The splices of a script, one after the other. -/
theorem applyAll_ofEd (X : List γ) (hX : trimEnd bl X = X) : ∀ (l : List (E.Ed γ)) (e : Nat) (P r : List γ) (moved : Int),
    e ≤ X.length → (P.length : Int) = e + moved → E.app X e l = .ok r → E.Good (e : Int) l → trimEnd bl (P ++ r) = P ++ r → (P ++ r).length ≤ 264 →
    applyAll bl sp (P ++ X.drop e) (ofEd moved l) = some (P ++ r) := by
  intro l
  induction l with
  | nil =>
    intro e P r moved he hP h _ _ _
    injection h with h
    subst h
    rfl
  | cons x l ih =>
    intro e P r moved he hP h hg ht hl
    obtain ⟨h1, h2, h3, h4, r', h5, rfl⟩ := E.app_ok h
    obtain ⟨g1, g2, g3, g4⟩ := hg
    obtain ⟨k, hk⟩ : ∃ k : Nat, x.at_ = e + k := ⟨(x.at_ - e).toNat, by omega⟩
    obtain ⟨d, hd⟩ : ∃ d : Nat, x.del = d := ⟨x.del.toNat, by omega⟩
    have ek : (x.at_ - e).toNat = k := by omega
    have ee : (x.at_ + x.del).toNat = e + (k + d) := by omega
    rw [ek] at ht hl ⊢
    rw [ee] at h5
    have hb := body_at sp (P := P) (S := X.drop e) (ins := x.ins) (at_ := k) (del := d) (c := ⟨x.at_ + moved, x.del, x.ins⟩) (by simp only; omega) hd rfl (by simp; omega)
    rw [List.drop_drop] at hb
    have hlen : (P ++ X.drop e).length = P.length + (X.length - e) := by simp
    have hlk : (List.take k (X.drop e)).length = k := by simp; omega
    have hcol : x.at_ + moved ≤ 264 := by
      simp only [List.length_append, hlk] at hl
      omega
    have hap : apply bl sp (P ++ X.drop e) ⟨x.at_ + moved, x.del, x.ins⟩ = some (trimEnd bl (P ++ List.take k (X.drop e) ++ x.ins ++ X.drop (e + (k + d)))) := by
      unfold apply
      rw [if_neg (by simp only [hlen]; omega), hb]
    have hP' : ((P ++ List.take k (X.drop e) ++ x.ins).length : Int) = ((e + (k + d) : Nat) : Int) + (moved + (x.ins.length - x.del)) := by
      simp only [List.length_append, hlk]
      omega
    show (match apply bl sp (P ++ X.drop e) ⟨x.at_ + moved, x.del, x.ins⟩ with | none => none | some m => applyAll bl sp m (ofEd (moved + (x.ins.length - x.del)) l)) = _
    rw [hap]
    have hassoc : P ++ (List.take k (X.drop e) ++ x.ins ++ r') = P ++ List.take k (X.drop e) ++ x.ins ++ r' := by simp
    rw [hassoc] at ht hl ⊢
    by_cases hend : X.drop (e + (k + d)) = []
    · -- nothing is left: this was the last edit
      have hx : X.length ≤ e + (k + d) := by simpa using hend
      cases l with
      | nil =>
        injection h5 with h5
        subst h5
        rw [hend] at ht ⊢
        simp only [ofEd, applyAll]
        rw [ht]
      | cons y l =>
        obtain ⟨q1, q2, q3, q4, _⟩ := E.app_ok h5
        have := g4.1
        omega
    · have htr : trimEnd bl (P ++ List.take k (X.drop e) ++ x.ins ++ X.drop (e + (k + d))) = P ++ List.take k (X.drop e) ++ x.ins ++ X.drop (e + (k + d)) :=
        trim_suffix bl hX (p := X.take (e + (k + d))) (List.take_append_drop _ _).symm hend _
      rw [htr]
      exact ih (e + (k + d)) (P ++ List.take k (X.drop e) ++ x.ins) r' _ (by omega) hP' h5 (E.good_le g4 (by omega)) ht hl

omit [DecidableEq γ] in
theorem applyAll_repl (a b : List γ) : apply bl sp (trimEnd bl a) (repl bl a b) = some (trimEnd bl b) := by
  unfold apply
  rw [if_neg (by simp [repl])]
  have : body sp (trimEnd bl a) (repl bl a b) = trimEnd bl b := by simp [body, repl]
  rw [this, trim_trim]

theorem roundtrip (a b : List γ) (hb : (trimEnd bl b).length ≤ 264) : applyAll bl sp (trimEnd bl a) (splices bl a b) = some (trimEnd bl b) := by
  unfold splices
  split
  · simp only [applyAll, applyAll_repl]
  · have h := applyAll_ofEd bl sp (trimEnd bl a) (trim_trim bl a) (E.script (trimEnd bl a) (trimEnd bl b)) 0 [] (trimEnd bl b) 0 (Nat.zero_le _) (by simp) (E.app_script _ _) (E.script_good _ _) (by simpa using trim_trim bl b) (by simpa using hb)
    simpa [outs] using h

omit [DecidableEq γ] in
/-- What an edit inserts stands in the new row at its place. -/
theorem ofEd_ins (X Y : List γ) : ∀ (l : List (E.Ed γ)) (e : Nat) (P r : List γ) (moved : Int), e ≤ X.length → (P.length : Int) = e + moved → E.app X e l = .ok r → Y = P ++ r →
    ∀ c ∈ ofEd moved l, 0 ≤ c.col ∧ c.gl = (Y.drop c.col.toNat).take c.gl.length ∧ c.col + c.gl.length ≤ Y.length := by
  intro l
  induction l with
  | nil => intro e P r moved _ _ _ _ c hc; cases hc
  | cons x l ih =>
    intro e P r moved he hP h hY c hc
    obtain ⟨h1, h2, h3, h4, r', h5, rfl⟩ := E.app_ok h
    obtain ⟨k, hk⟩ : ∃ k : Nat, x.at_ = e + k := ⟨(x.at_ - e).toNat, by omega⟩
    have ek : (x.at_ - e).toNat = k := by omega
    rw [ek] at hY
    have hlk : (List.take k (X.drop e)).length = k := by simp; omega
    have hY' : Y = P ++ List.take k (X.drop e) ++ x.ins ++ r' := by rw [hY]; simp
    rcases List.mem_cons.1 hc with rfl | hc
    · have e1 : (x.at_ + moved).toNat = (P ++ List.take k (X.drop e)).length := by rw [List.length_append, hlk]; omega
      refine ⟨by simp only; omega, ?_, ?_⟩
      · simp only
        rw [e1, hY', List.append_assoc (P ++ List.take k (X.drop e)), List.drop_left, List.take_left]
      · simp only
        rw [hY']
        simp only [List.length_append, hlk]
        omega
    · refine ih _ (P ++ List.take k (X.drop e) ++ x.ins) r' _ (by omega) ?_ h5 hY' c hc
      simp only [List.length_append, hlk]
      omega

/-- The reference's splices, out of the edits of a renamed row. -/
def ofRef {β : Type} (Y : List γ) : Int → List (E.Ed β) → List (Ch γ)
  | _, [] => []
  | moved, e :: l => ⟨e.at_ + moved, e.del, (Y.drop (e.at_ + moved).toNat).take e.ins.length⟩ :: ofRef Y (moved + (e.ins.length - e.del)) l

omit [DecidableEq γ] in
theorem ofRef_ren {β : Type} (Y : List γ) (f : γ → β) : ∀ (l : List (E.Ed γ)) (m : Int), (∀ c ∈ ofEd m l, c.gl = (Y.drop c.col.toNat).take c.gl.length) → ofRef Y m (l.map (E.Ed.ren f)) = ofEd m l := by
  intro l
  induction l with
  | nil => intro m _; rfl
  | cons e l ih =>
    intro m h
    have h1 := h ⟨e.at_ + m, e.del, e.ins⟩ (by simp [ofEd])
    simp only at h1
    simp only [List.map_cons, ofRef, ofEd, E.Ed.ren, List.length_map]
    rw [← h1, ih _ (fun c hc => h c (by simp [ofEd, hc]))]

/-- The number of a glyph: where it stands first. -/
def num (all : List γ) (g : γ) : Nat := all.findIdx (fun x => decide (x = g))
theorem num_inj (all : List γ) {g h : γ} (hg : g ∈ all) (he : num all g = num all h) : g = h := by
  unfold num at he
  have h1 : all.findIdx (fun x => decide (x = g)) < all.length := List.findIdx_lt_length_of_exists ⟨g, hg, by simp⟩
  have h2 := List.findIdx_getElem (w := h1)
  have h3 : all.findIdx (fun x => decide (x = h)) < all.length := he ▸ h1
  have h4 := List.findIdx_getElem (w := h3)
  simp only [decide_eq_true_eq] at h2 h4
  rw [← h2, ← h4]
  congr 1
theorem num_eq {all : List γ} {g : γ} {n : Nat} (h : n < all.length) (h1 : all[n] = g) (h2 : ∀ j (hj : j < n), all[j] ≠ g) : num all g = n := by
  have hl : num all g < all.length := List.findIdx_lt_length_of_exists ⟨all[n], List.getElem_mem h, by simp [h1]⟩
  have hg : all[num all g] = g := by
    exact of_decide_eq_true (List.findIdx_getElem (w := hl))
  have hle : num all g ≤ n := by
    by_cases hh : n < num all g
    · have := List.not_of_lt_findIdx (p := fun x => decide (x = g)) (xs := all) hh
      simp [h1] at this
    · omega
  by_cases hh : num all g < n
  · exact absurd hg (h2 _ hh)
  · omega

def refSplices (a b : List γ) : List (Ch γ) :=
  if trimEnd bl a = trimEnd bl b then []
  else
    if cost [repl bl a b] < cost (ofRef (trimEnd bl b) 0 (E.script ((trimEnd bl a).map (num (trimEnd bl a ++ trimEnd bl b))) ((trimEnd bl b).map (num (trimEnd bl a ++ trimEnd bl b))))) then [repl bl a b]
    else ofRef (trimEnd bl b) 0 (E.script ((trimEnd bl a).map (num (trimEnd bl a ++ trimEnd bl b))) ((trimEnd bl b).map (num (trimEnd bl a ++ trimEnd bl b))))

theorem ofRef_script (X Y : List γ) : ofRef Y 0 (E.script (X.map (num (X ++ Y))) (Y.map (num (X ++ Y)))) = ofEd 0 (E.script X Y) := by
  rw [E.script_map _ _ _ (fun x hx y _ h => num_inj (X ++ Y) (by simp [hx]) h)]
  refine ofRef_ren Y _ _ 0 (fun c hc => ?_)
  exact (ofEd_ins X Y (E.script X Y) 0 [] Y 0 (Nat.zero_le _) (by simp) (E.app_script _ _) rfl c hc).2.1

theorem refSplices_eq (a b : List γ) : refSplices bl a b = splices bl a b := by
  unfold refSplices
  rw [ofRef_script]
  by_cases h : trimEnd bl a = trimEnd bl b
  · rw [if_pos h, (splices_nil_iff bl a b).2 h]
  · rw [if_neg h, show ofEd 0 (E.script (trimEnd bl a) (trimEnd bl b)) = outs bl a b from rfl]
    have hne : outs bl a b ≠ [] := fun hh => h ((script_nil_iff _ _).1 ((ofEd_nil_iff _ _).1 hh))
    unfold splices
    by_cases hc : cost [repl bl a b] < cost (outs bl a b)
    · rw [if_pos hc, if_pos ⟨hne, hc⟩]
    · rw [if_neg hc, if_neg (fun hh => hc hh.2)]

/-! The laws. -/
omit [DecidableEq γ] in
theorem cost_one (a b : List γ) : cost [repl bl a b] = 2 + max 0 (min ((trimEnd bl a).length : Int) 1000) + (trimEnd bl b).length := by
  simp [price, repl]

theorem least (a b : List γ) : cost (splices bl a b) ≤ cost [repl bl a b] ∨ splices bl a b = [] := by
  unfold splices
  split
  · left; exact Int.le_refl _
  · rename_i h
    by_cases h0 : outs bl a b = []
    · exact .inr h0
    · left
      by_cases hc : cost [repl bl a b] < cost (outs bl a b)
      · exact absurd ⟨h0, hc⟩ h
      · omega

def sum (l : List (Ch γ)) : Int := (l.map fun c => c.count + (c.gl.length : Int)).sum

theorem sum_dist (a b : List γ) : (sum (splices bl a b) = E.dist (trimEnd bl a) (trimEnd bl b)) ∨ (splices bl a b = [repl bl a b] ∧ (E.dist (trimEnd bl a) (trimEnd bl b) : Int) ≤ sum (splices bl a b)) := by
  by_cases h : outs bl a b ≠ [] ∧ cost [repl bl a b] < cost (outs bl a b)
  · right
    have e : splices bl a b = [repl bl a b] := by unfold splices; rw [if_pos h]
    rw [e]
    refine ⟨rfl, ?_⟩
    have := E.dist_int (trimEnd bl a) (trimEnd bl b)
    simp [sum, repl]
    omega
  · left
    have e : splices bl a b = outs bl a b := by unfold splices; rw [if_neg h]
    rw [e]
    unfold sum outs
    rw [ofEd_sum, E.script_weight]

/-- Appended text. -/
theorem script_append (x s : List γ) : E.script x (x ++ s) = if s = [] then [] else [⟨x.length, 0, s⟩] := by
  have h := E.script_front x [] s
  rw [List.append_nil] at h
  rw [h]
  have hs : ∀ (s : List γ) (p : List γ), p ≠ [] → E.scr (some ⟨0, 0, p⟩) 0 s (E.walk [] s) = [⟨0, 0, p ++ s⟩] := by
    intro s
    induction s with
    | nil => intro p _; simp [E.walk_nil_nil, E.scr_nil]
    | cons y s ih =>
      intro p hp
      rw [E.walk_nil, E.scr_2]
      have := ih (p ++ [y]) (by simp)
      simpa using this
  cases s with
  | nil => rfl
  | cons y s =>
    have h2 : E.script [] (y :: s) = [⟨0, 0, y :: s⟩] := by
      unfold E.script
      rw [E.walk_nil, E.scr_2]
      have := hs s [y] (by simp)
      simpa using this
    rw [h2]
    simp [E.Ed.shift]

theorem append_law (old next s : List γ) (ho : trimEnd bl old = old) (hn : trimEnd bl next = next) (e : next = old ++ s) (hs : s ≠ []) : splices bl old next = [⟨old.length, 0, s⟩] := by
  have ho' : outs bl old next = [⟨old.length, 0, s⟩] := by
    unfold outs
    rw [ho, hn, e, script_append, if_neg hs]
    simp [ofEd]
  unfold splices
  rw [if_neg, ho']
  rintro ⟨_, h⟩
  rw [ho', cost_one, ho, hn, e] at h
  simp [price] at h
  omega

/-- A common beginning. -/
theorem prefix_law (p a b : List γ) (ha : trimEnd bl a ≠ []) (hb : trimEnd bl b ≠ []) (hl : splices bl a b ≠ [repl bl a b]) (hm : (trimEnd bl a).length ≤ 500) (hp : p.length ≤ 500) :
    splices bl (p ++ a) (p ++ b) = (splices bl a b).map fun c => { c with col := c.col + p.length } := by
  have h0 : ¬ (outs bl a b ≠ [] ∧ cost [repl bl a b] < cost (outs bl a b)) := fun h => hl (by unfold splices; rw [if_pos h])
  have e1 : splices bl a b = outs bl a b := by unfold splices; rw [if_neg h0]
  have e2 : outs bl (p ++ a) (p ++ b) = (outs bl a b).map fun c => { c with col := c.col + (p.length : Int) } := by
    unfold outs
    rw [trim_append bl p a ha, trim_append bl p b hb, E.script_front, ofEd_shift]
  have e3 : cost (outs bl (p ++ a) (p ++ b)) = cost (outs bl a b) := by
    rw [e2]
    unfold cost
    rw [List.map_map]
    rfl
  have e4 : cost [repl bl a b] ≤ cost [repl bl (p ++ a) (p ++ b)] := by
    rw [cost_one, cost_one, trim_append bl p a ha, trim_append bl p b hb]
    simp only [List.length_append]
    omega
  rw [e1, ← e2]
  unfold splices
  rw [if_neg]
  rintro ⟨h1, h2⟩
  rw [e3] at h2
  refine h0 ⟨fun hh => h1 (by rw [e2, hh]; rfl), by omega⟩
end
end R
end Go.Proofs.Yteakiielcmgkeaa
