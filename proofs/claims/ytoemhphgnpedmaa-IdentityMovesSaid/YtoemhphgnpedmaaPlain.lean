/-
  The plain mathematics of layer 30 (regions): likeness; which region continues which. By an AI agent.
-/
import Derived.Test.YtoemhphgnpedmaaAPlain4
namespace Go.Proofs.Ytoemhphgnpedmaa
namespace I

/-- A region. -/
structure Rg where
  kind : Int
  id : Int
  parent : Int
  top : Int
  left : Int
  bottom : Int
  right : Int
  label : ByteArray
deriving DecidableEq

instance : Inhabited Rg := ⟨⟨0, 0, 0, 0, 0, 0, 0, ByteArray.empty⟩⟩

def proper (r : Rg) : Bool := decide (0 ≤ r.top) && decide (r.top < r.bottom) && decide (r.bottom ≤ 60) && decide (0 ≤ r.left) && decide (r.left < r.right) && decide (r.right ≤ 132)
def area (h w : Int) : Int := max 0 h * max 0 w
def both (a b : Rg) : Int := area (min a.bottom b.bottom - max a.top b.top) (min a.right b.right - max a.left b.left)
def all (a b : Rg) : Int := area (a.bottom - a.top) (a.right - a.left) + area (b.bottom - b.top) (b.right - b.left) - both a b
/-- How much two regions are alike. -/
def like (a b : Rg) : Int :=
  if proper a = true ∧ proper b = true ∧ a.kind = b.kind then
    600 * both a b / all a b + (if a.label = b.label then 300 else 0) + (if a.bottom - a.top = b.bottom - b.top ∧ a.right - a.left = b.right - b.left then 100 else 0)
  else 0

theorem proper_iff (r : Rg) : proper r = true ↔ 0 ≤ r.top ∧ r.top < r.bottom ∧ r.bottom ≤ 60 ∧ 0 ≤ r.left ∧ r.left < r.right ∧ r.right ≤ 132 := by
  simp [proper, and_assoc]

theorem area_le {h w h' w' : Int} (h1 : h ≤ h') (h2 : w ≤ w') : 0 ≤ area h w ∧ area h w ≤ area h' w' := by
  unfold area
  exact ⟨Int.mul_nonneg (by omega) (by omega), Int.mul_le_mul (by omega) (by omega) (by omega) (by omega)⟩
theorem area_pos {h w : Int} (h1 : 0 < h) (h2 : 0 < w) : 0 < area h w := by
  unfold area
  exact Int.mul_pos (by omega) (by omega)
theorem area_eq {h w h' w' : Int} (h1 : h ≤ h') (h2 : w ≤ w') (p1 : 0 < h') (p2 : 0 < w') (e : area h' w' ≤ area h w) : h = h' ∧ w = w' := by
  by_cases hh : h = h'
  · refine ⟨hh, ?_⟩
    by_cases hw : w = w'
    · exact hw
    · exfalso
      subst hh
      have h3 : area h w ≤ area h (w' - 1) := (area_le (Int.le_refl _) (by omega)).2
      have h4 : area h (w' - 1) < area h w' := by
        unfold area
        exact Int.mul_lt_mul_of_pos_left (by omega) (by omega)
      omega
  · exfalso
    have h3 : area h w ≤ area (h' - 1) w' := (area_le (by omega) h2).2
    have h4 : area (h' - 1) w' < area h' w' := by
      unfold area
      exact Int.mul_lt_mul_of_pos_right (by omega) (by omega)
    omega
theorem area_small {h w : Int} (h1 : h ≤ 60) (h2 : w ≤ 132) : 0 ≤ area h w ∧ area h w ≤ 7920 := by
  have h3 := area_le h1 h2
  have : area 60 132 = 7920 := rfl
  omega

theorem both_comm (a b : Rg) : both a b = both b a := by
  unfold both
  rw [show min a.bottom b.bottom = min b.bottom a.bottom by omega, show max a.top b.top = max b.top a.top by omega, show min a.right b.right = min b.right a.right by omega, show max a.left b.left = max b.left a.left by omega]
theorem all_comm (a b : Rg) : all a b = all b a := by unfold all; rw [both_comm]; omega

/-- The numbers that the code goes through. -/
theorem parts {a b : Rg} (ha : proper a = true) (hb : proper b = true) : 0 ≤ both a b ∧ both a b ≤ area (a.bottom - a.top) (a.right - a.left) ∧ both a b ≤ area (b.bottom - b.top) (b.right - b.left) ∧
    0 < area (a.bottom - a.top) (a.right - a.left) ∧ area (a.bottom - a.top) (a.right - a.left) ≤ 7920 ∧ 0 < area (b.bottom - b.top) (b.right - b.left) ∧ area (b.bottom - b.top) (b.right - b.left) ≤ 7920 ∧ 0 < all a b ∧ both a b ≤ all a b := by
  rw [proper_iff] at ha hb
  have h1 := area_le (h := min a.bottom b.bottom - max a.top b.top) (w := min a.right b.right - max a.left b.left) (h' := a.bottom - a.top) (w' := a.right - a.left) (by omega) (by omega)
  have h2 := area_le (h := min a.bottom b.bottom - max a.top b.top) (w := min a.right b.right - max a.left b.left) (h' := b.bottom - b.top) (w' := b.right - b.left) (by omega) (by omega)
  have h3 := area_pos (h := a.bottom - a.top) (w := a.right - a.left) (by omega) (by omega)
  have h4 := area_pos (h := b.bottom - b.top) (w := b.right - b.left) (by omega) (by omega)
  have h5 := area_small (h := a.bottom - a.top) (w := a.right - a.left) (by omega) (by omega)
  have h6 := area_small (h := b.bottom - b.top) (w := b.right - b.left) (by omega) (by omega)
  have e : both a b = area (min a.bottom b.bottom - max a.top b.top) (min a.right b.right - max a.left b.left) := rfl
  unfold all
  rw [← e] at h1 h2
  omega

theorem quot {a b : Rg} (ha : proper a = true) (hb : proper b = true) : 0 ≤ 600 * both a b / all a b ∧ 600 * both a b / all a b ≤ 600 := by
  have h := parts ha hb
  refine ⟨Int.ediv_nonneg (by omega) (by omega), ?_⟩
  rw [Int.ediv_le_iff_le_mul (by omega)]
  omega

theorem like_bd (a b : Rg) : 0 ≤ like a b ∧ like a b ≤ 1000 := by
  unfold like
  split
  · rename_i h
    have := quot h.1 h.2.1
    split <;> split <;> omega
  · omega
theorem like_comm (a b : Rg) : like a b = like b a := by
  unfold like
  by_cases h : proper a = true ∧ proper b = true ∧ a.kind = b.kind
  · have h' : proper b = true ∧ proper a = true ∧ b.kind = a.kind := ⟨h.2.1, h.1, h.2.2.symm⟩
    have e1 : (if a.label = b.label then 300 else 0 : Int) = if b.label = a.label then 300 else 0 := by
      by_cases e : a.label = b.label
      · rw [if_pos e, if_pos e.symm]
      · rw [if_neg e, if_neg (fun x => e x.symm)]
    have e2 : (if a.bottom - a.top = b.bottom - b.top ∧ a.right - a.left = b.right - b.left then 100 else 0 : Int) = if b.bottom - b.top = a.bottom - a.top ∧ b.right - b.left = a.right - a.left then 100 else 0 := by
      by_cases e : a.bottom - a.top = b.bottom - b.top ∧ a.right - a.left = b.right - b.left
      · rw [if_pos e, if_pos ⟨e.1.symm, e.2.symm⟩]
      · rw [if_neg e, if_neg (fun x => e ⟨x.1.symm, x.2.symm⟩)]
    rw [if_pos h, if_pos h', both_comm a b, all_comm a b, e1, e2]
  · have h' : ¬ (proper b = true ∧ proper a = true ∧ b.kind = a.kind) := fun x => h ⟨x.2.1, x.1, x.2.2.symm⟩
    rw [if_neg h, if_neg h']

theorem like_self {a : Rg} (h : proper a = true) : like a a = 1000 := by
  have e : both a a = area (a.bottom - a.top) (a.right - a.left) := by
    unfold both
    rw [show min a.bottom a.bottom - max a.top a.top = a.bottom - a.top by omega, show min a.right a.right - max a.left a.left = a.right - a.left by omega]
  have e2 : all a a = both a a := by unfold all; rw [← e]; omega
  have h3 := parts h h
  unfold like
  rw [if_pos ⟨h, h, rfl⟩, e2, if_pos rfl, if_pos ⟨rfl, rfl⟩, Int.mul_ediv_cancel _ (by omega)]
  omega

/-- The full likeness. -/
theorem like_full (a b : Rg) : like a b = 1000 ↔ ({ b with id := a.id, parent := a.parent } = a ∧ proper a = true) := by
  constructor
  · intro h
    unfold like at h
    split at h
    · rename_i hp
      obtain ⟨ha, hb, hk⟩ := hp
      have hq := quot ha hb
      have h3 := parts ha hb
      split at h <;> split at h
      · rename_i hl hd
        have hbb : all a b ≤ both a b := by
          have : 600 * both a b / all a b = 600 := by omega
          have := (Int.le_ediv_iff_mul_le (a := 600) (b := 600 * both a b) (c := all a b) (by omega)).1 (by omega)
          omega
        have ha' := (proper_iff a).1 ha
        have hb' := (proper_iff b).1 hb
        have e1 := area_eq (h := min a.bottom b.bottom - max a.top b.top) (w := min a.right b.right - max a.left b.left) (h' := a.bottom - a.top) (w' := a.right - a.left) (by omega) (by omega) (by omega) (by omega) (by
          have : both a b = area (min a.bottom b.bottom - max a.top b.top) (min a.right b.right - max a.left b.left) := rfl
          rw [← this]
          unfold all at hbb
          omega)
        refine ⟨?_, ha⟩
        obtain ⟨k1, i1, p1, t1, l1, b1, r1, lb1⟩ := a
        obtain ⟨k2, i2, p2, t2, l2, b2, r2, lb2⟩ := b
        simp only at *
        have q1 : t2 = t1 := by omega
        have q2 : l2 = l1 := by omega
        have q3 : b2 = b1 := by omega
        have q4 : r2 = r1 := by omega
        rw [q1, q2, q3, q4, ← hk, ← hl]
      · omega
      · omega
      · omega
    · omega
  · rintro ⟨e, h⟩
    have h1 := like_self h
    have h2 : like a { b with id := a.id, parent := a.parent } = like a b := rfl
    rw [e] at h2
    omega

/-! Who continues whom. -/
/-- The cost of a pair, beyond the lists too. -/
def lk (next old : List Rg) (i k : Nat) : Int := if i < next.length ∧ k < old.length then like (next.getD i default) (old.getD k default) else 0
def cost (next old : List Rg) (i k : Nat) : Int := if 300 ≤ lk next old i k then 1000 - lk next old i k else 1000
def dim (next old : List Rg) : Nat := max next.length old.length

theorem lk_bd (next old : List Rg) (i k : Nat) : 0 ≤ lk next old i k ∧ lk next old i k ≤ 1000 := by
  unfold lk
  split
  · exact like_bd _ _
  · omega
theorem cost_bd (next old : List Rg) (i k : Nat) : 0 ≤ cost next old i k ∧ cost next old i k ≤ 1000 := by
  have := lk_bd next old i k
  unfold cost
  split <;> omega

/-- The costs, rows and columns counted from 1. -/
def cst (next old : List Rg) (r j : Nat) : Int := cost next old (r - 1) (j - 1)

/-- Row i (from 0) continues no old region: N says (counted from 1) which column a row has. -/
def fresh (next old : List Rg) (N : Nat → Nat) (i : Nat) : Bool := decide (lk next old i (N (i + 1) - 1) < 300)
/-- How many of the first i rows continue none. -/
def cntF (next old : List Rg) (N : Nat → Nat) : Nat → Nat
  | 0 => 0
  | i + 1 => cntF next old N i + if fresh next old N i = true then 1 else 0
/-- The number of row i. -/
def ident (next old : List Rg) (N : Nat → Nat) (un : Int) (i : Nat) : Int :=
  if fresh next old N i = true then un + cntF next old N i else (old.getD (N (i + 1) - 1) default).id
def outR (next old : List Rg) (N : Nat → Nat) (un : Int) (i : Nat) : Rg := { next.getD i default with id := ident next old N un i }
def outs (next old : List Rg) (N : Nat → Nat) (un : Int) : List Rg := (List.range next.length).map (outR next old N un)

theorem outs_length (next old : List Rg) (N : Nat → Nat) (un : Int) : (outs next old N un).length = next.length := by simp [outs]
theorem outs_get (next old : List Rg) (N : Nat → Nat) (un : Int) {i : Nat} (h : i < next.length) : (outs next old N un).getD i default = outR next old N un i := by simp [outs, List.getD, h]
theorem cntF_le (next old : List Rg) (N : Nat → Nat) : ∀ i, cntF next old N i ≤ i
  | 0 => Nat.le_refl _
  | i + 1 => by have := cntF_le next old N i; simp only [cntF]; split <;> omega
theorem cntF_mono (next old : List Rg) (N : Nat → Nat) {i : Nat} : ∀ {j : Nat}, i ≤ j → cntF next old N i ≤ cntF next old N j
  | 0, h => by have : i = 0 := by omega
               subst this; exact Nat.le_refl _
  | j + 1, h => by
    by_cases e : i = j + 1
    · subst e; exact Nat.le_refl _
    · have := cntF_mono next old N (i := i) (j := j) (by omega)
      simp only [cntF]; split <;> omega
theorem cntF_lt (next old : List Rg) (N : Nat → Nat) {i j : Nat} (h : i < j) (hf : fresh next old N i = true) : cntF next old N i < cntF next old N j := by
  have h1 : cntF next old N (i + 1) = cntF next old N i + 1 := by simp [cntF, hf]
  have h2 := cntF_mono next old N (i := i + 1) (j := j) (by omega)
  omega
theorem not_fresh {next old : List Rg} {N : Nat → Nat} {i : Nat} (h : fresh next old N i = false) : i < next.length ∧ N (i + 1) - 1 < old.length ∧ 300 ≤ like (next.getD i default) (old.getD (N (i + 1) - 1) default) := by
  unfold fresh at h
  rw [decide_eq_false_iff_not] at h
  unfold lk at h
  split at h
  · rename_i hh; exact ⟨hh.1, hh.2, by omega⟩
  · omega

/-- The old numbers are different, and less than 'most'. -/
def Diff (l : List Rg) (most : Int) : Prop := (∀ i, i < l.length → (l.getD i default).id < most) ∧ ∀ i k, i < l.length → k < i → (l.getD i default).id ≠ (l.getD k default).id

section
variable {next old : List Rg} {N : Nat → Nat} {un : Int} {n : Nat}
theorem ident_new (hd : Diff old un) {i : Nat} (_ : i < next.length) : ident next old N un i < un ↔ fresh next old N i = false := by
  unfold ident
  cases hf : fresh next old N i with
  | true => simp only [if_true]; constructor <;> intro h <;> first | omega | cases h
  | false =>
    have := not_fresh hf
    have := hd.1 (N (i + 1) - 1) this.2.1
    simp only [Bool.false_eq_true, if_false]
    exact ⟨fun _ => trivial, fun _ => this⟩

theorem ident_ne (hn : n = dim next old) (hN : A.Pf n N) (hd : Diff old un) {i k : Nat} (hi : i < next.length) (hk : k < i) : ident next old N un i ≠ ident next old N un k := by
  intro e
  have hi' := ident_new (next := next) (N := N) hd (i := i) hi
  have hk' := ident_new (next := next) (N := N) hd (i := k) (by omega)
  unfold ident at e hi' hk'
  unfold dim at hn
  cases hf : fresh next old N i with
  | true =>
    cases hg : fresh next old N k with
    | true =>
      have := cntF_lt next old N hk hg
      simp only [hf, hg, if_true] at e
      omega
    | false => simp [hf, hg] at e hi' hk'; omega
  | false =>
    cases hg : fresh next old N k with
    | true => simp [hf, hg] at e hi' hk'; omega
    | false =>
      simp only [hf, hg, Bool.false_eq_true, if_false] at e
      have a := not_fresh hf
      have b := not_fresh hg
      have ra := hN.rg (i + 1) (by omega) (by omega)
      have rb := hN.rg (k + 1) (by omega) (by omega)
      have hne : N (i + 1) ≠ N (k + 1) := fun x => by have := hN.inj _ _ (by omega) (by omega) (by omega) (by omega) x; omega
      by_cases c : N (k + 1) < N (i + 1)
      · exact hd.2 (N (i + 1) - 1) (N (k + 1) - 1) a.2.1 (by omega) e
      · exact hd.2 (N (k + 1) - 1) (N (i + 1) - 1) b.2.1 (by omega) e.symm

theorem outs_diff (hn : n = dim next old) (hN : A.Pf n N) (hd : Diff old un) : Diff (outs next old N un) (un + cntF next old N next.length) := by
  refine ⟨fun i hi => ?_, fun i k hi hk => ?_⟩
  · rw [outs_length] at hi
    rw [outs_get _ _ _ _ hi]
    show ident next old N un i < _
    have h := ident_new (next := next) (N := N) hd (i := i) hi
    cases hf : fresh next old N i with
    | true => have := cntF_lt next old N hi hf; unfold ident; rw [if_pos hf]; omega
    | false => have := h.2 hf; omega
  · rw [outs_length] at hi
    rw [outs_get _ _ _ _ hi, outs_get _ _ _ _ (by omega)]
    exact ident_ne hn hN hd hi hk
end
end I
end Go.Proofs.Ytoemhphgnpedmaa
