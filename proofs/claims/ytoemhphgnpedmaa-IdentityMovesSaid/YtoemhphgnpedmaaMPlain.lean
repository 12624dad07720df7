/-
  The plain mathematics of layer 30: a region that moves keeps its number. By an AI agent.
-/
import Derived.Test.YtoemhphgnpedmaaKPlain
namespace Go.Proofs.Ytoemhphgnpedmaa
namespace I

/-- The first i regions with their places as numbers. -/
def nk (l : List Rg) (i : Nat) : List Rg := ((List.range i).map fun j => { l.getD j default with id := (j : Int) }) ++ l.drop i
theorem nk_zero (l : List Rg) : nk l 0 = l := by simp [nk]
theorem nk_len (l : List Rg) {i : Nat} (hi : i ≤ l.length) : (nk l i).length = l.length := by simp [nk]; omega
theorem nk_get (l : List Rg) {i : Nat} (hi : i < l.length) : (nk l i).getD i default = l[i] := by
  unfold nk
  rw [List.getD, List.getElem?_append_right (by simp)]
  simp [hi]
theorem nk_succ (l : List Rg) {i : Nat} (hi : i < l.length) : (nk l i).set i { (nk l i).getD i default with id := (i : Int) } = nk l (i + 1) := by
  rw [nk_get l hi]
  unfold nk
  rw [List.drop_eq_getElem_cons hi, List.set_append_right _ _ (by simp), List.length_map, List.length_range, Nat.sub_self, List.set_cons_zero, List.range_succ, List.map_append, List.append_assoc]
  have e : l.getD i default = l[i] := by simp [List.getD, hi]
  simp only [List.map_cons, List.map_nil, List.cons_append, List.nil_append]
  rw [e]
theorem nk_at (l : List Rg) {j : Nat} (hj : j < l.length) : (nk l l.length).getD j default = { l.getD j default with id := (j : Int) } := by
  unfold nk
  simp [List.getD, hj]

/-- What is asked of the corner of a table: it is the least of its row and its column. -/
theorem corner {n : Nat} {c : Nat → Nat → Int} {N : Nat → Nat} (h : A.Best n c N) (hn : 1 ≤ n) (h0 : c 1 1 < 1000) (hr : ∀ j, 2 ≤ j → j ≤ n → c 1 j = 1000) (hc : ∀ r, 2 ≤ r → r ≤ n → c r 1 = 1000) (hm : ∀ r j, c r j ≤ 1000) : N 1 = 1 := by
  by_cases e : N 1 = 1
  · exact e
  · exfalso
    obtain ⟨r, r1, r2, r3⟩ := A.pf_onto h.pf (j := 1) (Nat.le_refl _) hn
    have hr1 : 1 ≠ r := by rintro rfl; exact e r3
    have hN := (h.pf.rg 1 (Nat.le_refl _) hn)
    have s := A.swap_tot (n := n) (c := c) (N := N) (i := 1) (j := r) ⟨Nat.le_refl _, hn⟩ ⟨r1, r2⟩ hr1
    have m := h.min _ (A.swap_pf h.pf ⟨Nat.le_refl _, hn⟩ ⟨r1, r2⟩ hr1)
    rw [r3] at s
    have a1 := hr (N 1) (by omega) hN.2
    have a2 := hc r (by omega) r2
    have a3 := hm r (N 1)
    omega

/-- The law: a region that moves keeps its number. -/
theorem moves {others : List Rg} {r m : Rg} {N : Nat → Nat} (hk : m.kind = r.kind) (hl : m.label = r.label) (hh : m.bottom - m.top = r.bottom - r.top) (hw : m.right - m.left = r.right - r.left)
    (hp : proper r = true) (hq : proper m = true) (h1 : ∀ i, i < others.length → like (others.getD i default) r < 300) (h2 : ∀ i, i < others.length → like (others.getD i default) m < 300)
    (hb : A.Best (dim (m :: others) (nk ({ r with id := 0 } :: others) (others.length + 1))) (cst (m :: others) (nk ({ r with id := 0 } :: others) (others.length + 1))) N) (un : Int) :
    ident (m :: others) (nk ({ r with id := 0 } :: others) (others.length + 1)) N un 0 = 0 := by
  have hol : (nk ({ r with id := 0 } :: others) (others.length + 1)).length = others.length + 1 := nk_len _ (by simp)
  have hat := fun j (hj : j < others.length + 1) => nk_at ({ r with id := 0 } :: others) (j := j) (by simpa using hj)
  simp only [List.length_cons] at hat
  generalize nk ({ r with id := 0 } :: others) (others.length + 1) = od at *
  have hd : dim (m :: others) od = others.length + 1 := by unfold dim; simp [hol]
  have q := quot hq hp
  have lk0 : lk (m :: others) od 0 0 = like m r := by
    unfold lk
    rw [if_pos ⟨by simp, by omega⟩, hat 0 (by omega)]
    rfl
  have lkv : 400 ≤ like m r := by
    unfold like
    rw [if_pos ⟨hq, hp, hk⟩, if_pos hl, if_pos ⟨hh, hw⟩]
    omega
  have lkb := like_bd m r
  have lkr : ∀ j, j < others.length → lk (m :: others) od 0 (j + 1) < 300 := fun j hj => by
    unfold lk
    rw [if_pos ⟨by simp, by omega⟩, hat (j + 1) (by omega)]
    have := h2 j hj
    rw [like_comm] at this
    exact this
  have lkc : ∀ j, j < others.length → lk (m :: others) od (j + 1) 0 < 300 := fun j hj => by
    unfold lk
    rw [if_pos ⟨by simp; omega, by omega⟩, hat 0 (by omega)]
    exact h1 j hj
  have hN : N 1 = 1 := by
    refine corner hb (by omega) ?_ ?_ ?_ ?_
    · unfold cst cost
      rw [show 1 - 1 = 0 from rfl, lk0, if_pos (by omega)]
      omega
    · intro j j1 j2
      have := lkr (j - 2) (by omega)
      rw [show j - 2 + 1 = j - 1 by omega] at this
      unfold cst cost
      rw [show 1 - 1 = 0 from rfl, if_neg (by omega)]
    · intro j j1 j2
      have := lkc (j - 2) (by omega)
      rw [show j - 2 + 1 = j - 1 by omega] at this
      unfold cst cost
      rw [show 1 - 1 = 0 from rfl, if_neg (by omega)]
    · intro i j
      exact (cost_bd _ _ _ _).2
  have hf : fresh (m :: others) od N 0 = false := by
    unfold fresh
    rw [show 0 + 1 = 1 from rfl, hN, show 1 - 1 = 0 from rfl, lk0]
    exact decide_eq_false (by omega)
  unfold ident
  rw [hf, show 0 + 1 = 1 from rfl, hN, show 1 - 1 = 0 from rfl, hat 0 (by omega)]
  rfl
end I
end Go.Proofs.Ytoemhphgnpedmaa
