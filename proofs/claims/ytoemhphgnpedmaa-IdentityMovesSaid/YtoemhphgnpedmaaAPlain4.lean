/-
  The plain mathematics of layer 29: the least assignment among the best ones; what is true of it. By an AI agent.
-/
import Derived.Test.YtoemhphgnpedmaaAPlain3
namespace Go.Proofs.Ytoemhphgnpedmaa
namespace A

theorem perm_of {l : List Nat} : ∀ {m : List Nat}, l.Nodup → (∀ x ∈ l, x ∈ m) → m.length ≤ l.length → l.Perm m := by
  induction l with
  | nil =>
    intro m _ _ h
    have : m = [] := List.eq_nil_of_length_eq_zero (by simpa using h)
    subst this
    exact .nil
  | cons x l ih =>
    intro m hn h hl
    rw [List.nodup_cons] at hn
    have hx := h x (by simp)
    have h1 : l.Perm (m.erase x) := ih hn.2 (fun y hy => (List.mem_erase_of_ne (by rintro rfl; exact hn.1 hy)).2 (h y (by simp [hy]))) (by
      rw [List.length_erase_of_mem hx]; simp at hl; omega)
    exact (h1.cons x).trans (List.perm_cons_erase hx).symm
theorem perm_sum {l m : List Nat} (f : Nat → Int) (h : l.Perm m) : (l.map f).sum = (m.map f).sum := by
  induction h with
  | nil => rfl
  | cons x _ ih => simp [ih]
  | swap x y l => simp; omega
  | trans _ _ h1 h2 => rw [h1, h2]
theorem sum_le {l : List Nat} {f g : Nat → Int} (h : ∀ x ∈ l, f x ≤ g x) : (l.map f).sum ≤ (l.map g).sum := by
  induction l with
  | nil => simp
  | cons x l ih =>
    have h1 := h x (by simp)
    have h2 := ih (fun y hy => h y (by simp [hy]))
    simp only [List.map_cons, List.sum_cons]
    omega
theorem sum_tight {l : List Nat} {f g : Nat → Int} (h : ∀ x ∈ l, f x ≤ g x) (e : (l.map g).sum ≤ (l.map f).sum) : ∀ x ∈ l, f x = g x := by
  induction l with
  | nil => intro x hx; cases hx
  | cons y l ih =>
    intro x hx
    have h1 := h y (by simp)
    have h2 := sum_le (fun z hz => h z (by simp [hz]) : ∀ z ∈ l, f z ≤ g z)
    simp only [List.map_cons, List.sum_cons] at e
    rcases List.mem_cons.1 hx with rfl | hx
    · omega
    · exact ih (fun z hz => h z (by simp [hz])) (by omega) x hx
theorem sum_add {l : List Nat} (f g : Nat → Int) : (l.map fun x => f x + g x).sum = (l.map f).sum + (l.map g).sum := by
  induction l with
  | nil => rfl
  | cons x l ih => simp [ih]; omega
theorem sum_congr {l : List Nat} {f g : Nat → Int} (h : ∀ x ∈ l, f x = g x) : (l.map f).sum = (l.map g).sum := by
  rw [List.map_congr_left h]
theorem sum_upd {l : List Nat} (hn : l.Nodup) (f : Nat → Int) {i : Nat} (hi : i ∈ l) (x : Int) : (l.map (upd f i x)).sum = (l.map f).sum - f i + x := by
  induction l with
  | nil => cases hi
  | cons y l ih =>
    rw [List.nodup_cons] at hn
    simp only [List.map_cons, List.sum_cons]
    by_cases e : y = i
    · subst e
      rw [upd_same, sum_congr (g := f) (fun z hz => upd_ne _ _ (by rintro rfl; exact hn.1 hz))]
      omega
    · rw [upd_ne _ _ e, ih hn.2 (by rcases List.mem_cons.1 hi with h | h; exact absurd h.symm e; exact h)]
      omega

section
variable {n : Nat} {c : Nat → Nat → Int}

def tot (n : Nat) (c : Nat → Nat → Int) (N : Nat → Nat) : Int := ((nums n).map fun r => c r (N r)).sum

theorem pf_perm {N : Nat → Nat} (h : Pf n N) : ((nums n).map N).Perm (nums n) :=
  perm_of (nodup_map N (nodup_nums n) (fun x hx y hy e => h.inj x y (mem_nums.1 hx).1 (mem_nums.1 hx).2 (mem_nums.1 hy).1 (mem_nums.1 hy).2 e)) (fun z hz => by
    obtain ⟨x, hx, rfl⟩ := List.mem_map.1 hz
    exact mem_nums.2 (h.rg x (mem_nums.1 hx).1 (mem_nums.1 hx).2)) (by simp)
theorem pf_sum {N : Nat → Nat} (h : Pf n N) (f : Nat → Int) : ((nums n).map fun r => f (N r)).sum = ((nums n).map f).sum := by
  rw [← perm_sum f (pf_perm h), List.map_map]
  rfl
theorem pf_onto {N : Nat → Nat} (h : Pf n N) {j : Nat} (h1 : 1 ≤ j) (h2 : j ≤ n) : ∃ r, 1 ≤ r ∧ r ≤ n ∧ N r = j := by
  obtain ⟨r, hr, e⟩ := onto N (nodup_nums n) (fun x hx => mem_nums.2 (h.rg x (mem_nums.1 hx).1 (mem_nums.1 hx).2)) (fun x hx y hy e => h.inj x y (mem_nums.1 hx).1 (mem_nums.1 hx).2 (mem_nums.1 hy).1 (mem_nums.1 hy).2 e) (mem_nums.2 ⟨h1, h2⟩)
  exact ⟨r, (mem_nums.1 hr).1, (mem_nums.1 hr).2, e⟩

/-- The least among the best. -/
structure Best (n : Nat) (c : Nat → Nat → Int) (N : Nat → Nat) : Prop where
  pf : Pf n N
  min : ∀ N', Pf n N' → tot n c N ≤ tot n c N'
  lex : ∀ N', Pf n N' → tot n c N' = tot n c N → ∀ r, 1 ≤ r → r ≤ n → (∀ r', 1 ≤ r' → r' < r → N' r' = N r') → N r ≤ N' r

theorem best_unique {N N' : Nat → Nat} (h : Best n c N) (h' : Best n c N') : ∀ r, 1 ≤ r → r ≤ n → N r = N' r := by
  have e : tot n c N = tot n c N' := by have := h.min N' h'.pf; have := h'.min N h.pf; omega
  intro r
  induction r using Nat.strongRecOn with
  | _ r ih =>
    intro h1 h2
    have a := h.lex N' h'.pf e.symm r h1 h2 (fun r' x y => (ih r' y x (by omega)).symm)
    have b := h'.lex N h.pf e r h1 h2 (fun r' x y => ih r' y x (by omega))
    omega

/-- Numbers that fit prove it. -/
theorem best_of {u v : Nat → Int} {col p : Nat → Nat} (hf : ∀ r j, 1 ≤ r → r ≤ n → 1 ≤ j → j ≤ n → u r + v j ≤ c r j) (hp : PM n (fun r j => u r + v j = c r j) col p)
    (hl : LeastTo n (fun r j => u r + v j = c r j) col (n + 1)) : Best n c col ∧ tot n c col = ((nums n).map u).sum + ((nums n).map v).sum := by
  have hc := pm_pf hp
  have lo : ∀ N, Pf n N → ((nums n).map fun r => u r + v (N r)).sum = ((nums n).map u).sum + ((nums n).map v).sum := fun N hN => by
    rw [sum_add u (fun r => v (N r)), pf_sum hN v]
  have le : ∀ N, Pf n N → ((nums n).map fun r => u r + v (N r)).sum ≤ tot n c N := fun N hN => sum_le (fun r hr => by
    have := mem_nums.1 hr
    have := hN.rg r this.1 this.2
    exact hf _ _ (mem_nums.1 hr).1 (mem_nums.1 hr).2 this.1 this.2)
  have e : tot n c col = ((nums n).map u).sum + ((nums n).map v).sum := by
    rw [← lo col hc]
    exact sum_congr (fun r hr => ((hp.cr r (mem_nums.1 hr).1 (mem_nums.1 hr).2).2.2.2).symm)
  refine ⟨⟨hc, fun N hN => ?_, fun N hN ht r h1 h2 hag => ?_⟩, e⟩
  · have := lo N hN; have := le N hN; omega
  · refine hl r h1 (by omega) h2 N hN (fun r' a b => ?_) hag
    exact sum_tight (l := nums n) (f := fun r => u r + v (N r)) (g := fun r => c r (N r)) (fun r hr => by
      have := hN.rg r (mem_nums.1 hr).1 (mem_nums.1 hr).2
      exact hf _ _ (mem_nums.1 hr).1 (mem_nums.1 hr).2 this.1 this.2) (by
      have := lo N hN
      show tot n c N ≤ _
      omega) r' (mem_nums.2 ⟨a, b⟩)

theorem best_congr {c' : Nat → Nat → Int} (hc : ∀ r j, 1 ≤ r → r ≤ n → 1 ≤ j → j ≤ n → c' r j = c r j) {N : Nat → Nat} (h : Best n c N) : Best n c' N := by
  have e : ∀ N, Pf n N → tot n c' N = tot n c N := fun N hN => sum_congr (fun r hr => by
    have := hN.rg r (mem_nums.1 hr).1 (mem_nums.1 hr).2
    exact hc _ _ (mem_nums.1 hr).1 (mem_nums.1 hr).2 this.1 this.2)
  refine ⟨h.pf, fun N' hN' => ?_, fun N' hN' ht => h.lex N' hN' ?_⟩
  · rw [e N h.pf, e N' hN']; exact h.min N' hN'
  · rw [e N h.pf, e N' hN'] at ht; exact ht

/-- A number more in all totals. -/
theorem best_shift {c' : Nat → Nat → Int} {b : Int} (e : ∀ N, Pf n N → tot n c' N = tot n c N + b) {N : Nat → Nat} (h : Best n c N) : Best n c' N := by
  refine ⟨h.pf, fun N' hN' => ?_, fun N' hN' ht => h.lex N' hN' ?_⟩
  · rw [e N h.pf, e N' hN']; have := h.min N' hN'; omega
  · rw [e N h.pf, e N' hN'] at ht; omega

theorem tot_row {k : Nat} (hk : 1 ≤ k ∧ k ≤ n) (b : Int) (N : Nat → Nat) : tot n (fun r j => if r = k then c r j + b else c r j) N = tot n c N + b := by
  unfold tot
  have := sum_upd (nodup_nums n) (fun r => c r (N r)) (mem_nums.2 hk) (c k (N k) + b)
  rw [show ((nums n).map fun r => c r (N r)).sum + b = ((nums n).map fun r => c r (N r)).sum - c k (N k) + (c k (N k) + b) by omega, ← this]
  refine sum_congr (fun r _ => ?_)
  by_cases e : r = k
  · subst e; simp
  · rw [upd_ne _ _ e]; exact if_neg e
theorem tot_col {k : Nat} (hk : 1 ≤ k ∧ k ≤ n) (b : Int) {N : Nat → Nat} (hN : Pf n N) : tot n (fun r j => if j = k then c r j + b else c r j) N = tot n c N + b := by
  obtain ⟨i, i1, i2, i3⟩ := pf_onto hN hk.1 hk.2
  unfold tot
  have := sum_upd (nodup_nums n) (fun r => c r (N r)) (mem_nums.2 ⟨i1, i2⟩) (c i (N i) + b)
  rw [show ((nums n).map fun r => c r (N r)).sum + b = ((nums n).map fun r => c r (N r)).sum - c i (N i) + (c i (N i) + b) by omega, ← this]
  refine sum_congr (fun r hr => ?_)
  by_cases e : r = i
  · subst e; rw [upd_same]; exact if_pos i3
  · rw [upd_ne _ _ e]; exact if_neg (fun ee => e (hN.inj r i (mem_nums.1 hr).1 (mem_nums.1 hr).2 i1 i2 (Eq.trans ee i3.symm)))

/-- The other way round. -/
theorem pf_inverse {N : Nat → Nat} (hN : Pf n N) : ∃ I, Pf n I ∧ tot n (fun r j => c j r) I = tot n c N := by
  have h : ∀ j, ∃ r, (1 ≤ j → j ≤ n → 1 ≤ r ∧ r ≤ n ∧ N r = j) := fun j => by
    by_cases hj : 1 ≤ j ∧ j ≤ n
    · obtain ⟨r, h1, h2, h3⟩ := pf_onto hN hj.1 hj.2
      exact ⟨r, fun _ _ => ⟨h1, h2, h3⟩⟩
    · exact ⟨0, fun a b => absurd ⟨a, b⟩ hj⟩
  obtain ⟨I, hI⟩ := Classical.axiomOfChoice h
  have hp : Pf n I := ⟨fun j h1 h2 => ⟨(hI j h1 h2).1, (hI j h1 h2).2.1⟩, fun j j' h1 h2 h3 h4 e => by rw [← (hI j h1 h2).2.2, e, (hI j' h3 h4).2.2]⟩
  refine ⟨I, hp, ?_⟩
  have := pf_sum hp (fun r => c r (N r))
  unfold tot
  rw [← this]
  exact sum_congr (fun j hj => by rw [(hI j (mem_nums.1 hj).1 (mem_nums.1 hj).2).2.2])

theorem transpose_law {N N' : Nat → Nat} (h : Best n c N) (h' : Best n (fun r j => c j r) N') : tot n c N = tot n (fun r j => c j r) N' := by
  obtain ⟨I, hI, e⟩ := pf_inverse (c := c) h.pf
  obtain ⟨I', hI', e'⟩ := pf_inverse (c := fun r j => c j r) h'.pf
  have h1 := h'.min I hI
  have h2 := h.min I' hI'
  have e2 : tot n (fun r j => (fun r j => c j r) j r) I' = tot n c I' := rfl
  rw [e2] at e'
  omega

/-- Two rows exchange their columns. -/
def swap (N : Nat → Nat) (i j : Nat) : Nat → Nat := upd (upd N i (N j)) j (N i)
theorem swap_i (N : Nat → Nat) {i j : Nat} (h : i ≠ j) : swap N i j i = N j := by unfold swap; rw [upd_ne _ _ h, upd_same]
theorem swap_j (N : Nat → Nat) (i j : Nat) : swap N i j j = N i := upd_same _ _ _
theorem swap_ne (N : Nat → Nat) {i j r : Nat} (h : r ≠ i) (h' : r ≠ j) : swap N i j r = N r := by unfold swap; rw [upd_ne _ _ h', upd_ne _ _ h]
theorem swap_pf {N : Nat → Nat} (h : Pf n N) {i j : Nat} (hi : 1 ≤ i ∧ i ≤ n) (hj : 1 ≤ j ∧ j ≤ n) (hij : i ≠ j) : Pf n (swap N i j) := by
  have val : ∀ r, ∃ r', (r = i → r' = j) ∧ (r = j → r' = i) ∧ (r ≠ i → r ≠ j → r' = r) ∧ swap N i j r = N r' := fun r => by
    by_cases e : r = i
    · subst e; exact ⟨j, fun _ => rfl, fun e => absurd e hij, fun e => absurd rfl e, swap_i N hij⟩
    · by_cases e' : r = j
      · subst e'; exact ⟨i, fun e' => absurd e' e, fun _ => rfl, fun _ e => absurd rfl e, swap_j N i r⟩
      · exact ⟨r, fun x => absurd x e, fun x => absurd x e', fun _ _ => rfl, swap_ne N e e'⟩
  refine ⟨fun r h1 h2 => ?_, fun r r' h1 h2 h3 h4 e => ?_⟩
  · obtain ⟨x, a, b, d, e⟩ := val r
    rw [e]
    exact h.rg x (by omega) (by omega)
  · obtain ⟨x, a, b, d, ex⟩ := val r
    obtain ⟨x', a', b', d', ex'⟩ := val r'
    rw [ex, ex'] at e
    have := h.inj x x' (by omega) (by omega) (by omega) (by omega) e
    omega
theorem swap_tot {N : Nat → Nat} {i j : Nat} (hi : 1 ≤ i ∧ i ≤ n) (hj : 1 ≤ j ∧ j ≤ n) (hij : i ≠ j) : tot n c (swap N i j) = tot n c N - c i (N i) - c j (N j) + c i (N j) + c j (N i) := by
  unfold tot
  have e : ∀ r, c r (swap N i j r) = upd (upd (fun r => c r (N r)) i (c i (N j))) j (c j (N i)) r := fun r => by
    by_cases e : r = j
    · subst e; rw [swap_j, upd_same]
    · rw [upd_ne _ _ e]
      by_cases e' : r = i
      · subst e'; rw [swap_i N hij, upd_same]
      · rw [swap_ne N e' e, upd_ne _ _ e']
  rw [sum_congr (fun r _ => e r)]
  have h1 := sum_upd (nodup_nums n) (upd (fun r => c r (N r)) i (c i (N j))) (mem_nums.2 hj) (c j (N i))
  have h2 := sum_upd (nodup_nums n) (fun r => c r (N r)) (mem_nums.2 hi) (c i (N j))
  rw [upd_ne _ _ (fun e => hij e.symm)] at h1
  show ((nums n).map (upd (upd (fun r => c r (N r)) i (c i (N j))) j (c j (N i)))).sum = _
  omega

theorem least_law {N : Nat → Nat} (h : Best n c N) {i j : Nat} (hi : 1 ≤ i) (hij : i < j) (hj : j ≤ n) :
    c i (N i) + c j (N j) ≤ c i (N j) + c j (N i) ∧ (c i (N j) + c j (N i) = c i (N i) + c j (N j) → N i ≤ N j) := by
  have hp := swap_pf h.pf (i := i) (j := j) ⟨hi, by omega⟩ ⟨by omega, hj⟩ (by omega)
  have ht := swap_tot (n := n) (c := c) (N := N) (i := i) (j := j) ⟨hi, by omega⟩ ⟨by omega, hj⟩ (by omega)
  have hm := h.min _ hp
  refine ⟨by omega, fun e => ?_⟩
  have := h.lex _ hp (by omega) i hi (by omega) (fun r' a b => swap_ne N (by omega) (by omega))
  rwa [swap_i N (by omega)] at this

theorem diagonal_law {N P : Nat → Nat} (h : Best n c N) (hP : Pf n P) (h0 : ∀ r, 1 ≤ r → r ≤ n → c r (P r) = 0) (h1 : ∀ r j, 1 ≤ r → r ≤ n → 1 ≤ j → j ≤ n → j ≠ P r → 0 < c r j) : ∀ r, 1 ≤ r → r ≤ n → N r = P r := by
  have e0 : tot n c P = 0 := by
    unfold tot
    rw [sum_congr (g := fun _ => 0) (fun r hr => h0 r (mem_nums.1 hr).1 (mem_nums.1 hr).2)]
    generalize nums n = l
    induction l with
    | nil => rfl
    | cons x l ih => simpa using ih
  have hz : ((nums n).map fun _ => (0 : Int)).sum = 0 := by
    generalize nums n = l
    induction l with
    | nil => rfl
    | cons x l ih => simpa using ih
  have hm := h.min P hP
  have ht := sum_tight (l := nums n) (f := fun _ => (0 : Int)) (g := fun r => c r (N r)) (fun r hr => by
    have := mem_nums.1 hr
    have hN := h.pf.rg r this.1 this.2
    by_cases e : N r = P r
    · simp only [e, h0 r this.1 this.2]; exact Int.le_refl _
    · have := h1 r (N r) this.1 this.2 hN.1 hN.2 e; omega) (by
    show tot n c N ≤ _
    omega)
  intro r a b
  by_cases e : N r = P r
  · exact e
  · have hN := h.pf.rg r a b
    have := h1 r (N r) a b hN.1 hN.2 e
    have := ht r (mem_nums.2 ⟨a, b⟩)
    omega
end
end A
end Go.Proofs.Ytoemhphgnpedmaa
