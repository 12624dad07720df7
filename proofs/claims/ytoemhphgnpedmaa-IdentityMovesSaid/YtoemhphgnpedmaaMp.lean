/-
  What Match computes: no program in sight; and its pieces in memory. By an AI agent.
-/
import Derived.Test.YtoemhphgnpedmaaMtx
import Derived.Test.YtoemhphgnpedmaaSlv
namespace Go.Proofs.Ytoemhphgnpedmaa
open Go.RowKit

/-- The number of row i, reckoned as the machine does. -/
def I.idW (nx od : List I.Rg) (N : Nat → Nat) (un : Int) (i : Nat) : Int :=
  if I.fresh nx od N i = true then wrap64 (un + I.cntF nx od N i) else (od.getD (N (i + 1) - 1) default).id
def I.outW (nx od : List I.Rg) (N : Nat → Nat) (un : Int) (i : Nat) : I.Rg := { nx.getD i default with id := I.idW nx od N un i }
/-- The list, its first k regions numbered. -/
def I.mix (nx od : List I.Rg) (N : Nat → Nat) (un : Int) (k : Nat) : List I.Rg := (List.range nx.length).map fun i => if i < k then I.outW nx od N un i else nx.getD i default
def I.outsW (nx od : List I.Rg) (N : Nat → Nat) (un : Int) : List I.Rg := (List.range nx.length).map (I.outW nx od N un)
theorem I.outsW_len (nx od : List I.Rg) (N : Nat → Nat) (un : Int) : (I.outsW nx od N un).length = nx.length := by simp [I.outsW]
theorem I.outsW_get (nx od : List I.Rg) (N : Nat → Nat) (un : Int) {i : Nat} (h : i < nx.length) : (I.outsW nx od N un).getD i default = I.outW nx od N un i := by simp [I.outsW, List.getD, h]
theorem I.mix_zero (nx od : List I.Rg) (N : Nat → Nat) (un : Int) : I.mix nx od N un 0 = nx := by
  apply List.ext_getElem?
  intro j
  by_cases hj : j < nx.length <;> simp [I.mix, List.getD, hj]
theorem I.mix_all (nx od : List I.Rg) (N : Nat → Nat) (un : Int) : I.mix nx od N un nx.length = I.outsW nx od N un := by
  unfold I.mix I.outsW
  apply List.map_congr_left
  intro i hi
  rw [List.mem_range] at hi
  rw [if_pos hi]
theorem I.mix_len (nx od : List I.Rg) (N : Nat → Nat) (un : Int) (k : Nat) : (I.mix nx od N un k).length = nx.length := by simp [I.mix]
theorem I.mix_succ (nx od : List I.Rg) (N : Nat → Nat) (un : Int) {k : Nat} (hk : k < nx.length) : (I.mix nx od N un (k + 1)) = (I.mix nx od N un k).set k (I.outW nx od N un k) := by
  apply List.ext_getElem?
  intro j
  rw [List.getElem?_set]
  by_cases hj : j < nx.length
  · by_cases e : k = j
    · subst e
      simp [I.mix, hj]
    · rw [if_neg e]
      simp only [I.mix, List.getElem?_map, List.getElem?_range hj, Option.map_some]
      by_cases h : j < k
      · rw [if_pos h, if_pos (by omega)]
      · rw [if_neg h, if_neg (by omega)]
  · have h1 : (I.mix nx od N un (k + 1))[j]? = none := List.getElem?_eq_none (by rw [I.mix_len]; omega)
    have h2 : (I.mix nx od N un k)[j]? = none := List.getElem?_eq_none (by rw [I.mix_len]; omega)
    rw [h1, h2]
    split
    · omega
    · rfl
/-- A cell of a list of regions is turned. -/
theorem I.rcs_set (l : List I.Rg) {k : Nat} (hk : k < l.length) (x : Int) : (I.rcs l).set (k * 8 + 1) (.int .i64 x) = I.rcs (l.set k { l.getD k default with id := x }) := by
  induction l generalizing k with
  | nil => simp at hk
  | cons r l ih =>
    cases k with
    | zero => simp [I.rcs, I.Rg.cells]
    | succ k =>
      have h := ih (k := k) (by simpa using hk)
      simp only [I.rcs, List.flatMap_cons, List.set_cons_succ, List.getD_cons_succ] at h ⊢
      rw [← h, show (k + 1) * 8 + 1 = r.cells.length + (k * 8 + 1) from by rw [I.cells_len]; omega, List.set_append_right _ _ (by omega)]
      congr 2
      omega
theorem I.mix_set (nx od : List I.Rg) (N : Nat → Nat) (un : Int) {k : Nat} (hk : k < nx.length) : (I.rcs (I.mix nx od N un k)).set (k * 8 + 1) (.int .i64 (I.idW nx od N un k)) = I.rcs (I.mix nx od N un (k + 1)) := by
  rw [I.rcs_set _ (by rw [I.mix_len]; exact hk), I.mix_succ _ _ _ _ hk]
  congr 2
  have : (I.mix nx od N un k).getD k default = nx.getD k default := by simp [I.mix, List.getD, hk]
  rw [this]
  rfl
/-- What Match hands back. -/
def I.MatchOut (nx od : List I.Rg) (un : Int) (w w' : World) (e : Ending) : Prop := ∃ N v, e = .returned (.tuple #[v, .int .i64 (wrap64 (un + I.cntF nx od N nx.length))]) ∧ w'.ownsRow w.heap.size 27 8 v nx.length (I.rcs (I.outsW nx od N un)) ∧ A.Best (I.dim nx od) (I.cst nx od) N ∧ Below w.heap.size w w'
theorem A.tot_congr {n : Nat} {c c' : Nat → Nat → Int} {N : Nat → Nat} (hN : A.Pf n N) (h : ∀ r j, 1 ≤ r → r ≤ n → 1 ≤ j → j ≤ n → c r j = c' r j) : A.tot n c N = A.tot n c' N := by
  unfold A.tot
  congr 1
  apply List.map_congr_left
  intro r hr
  have := A.mem_nums.1 hr
  have := hN.rg r this.1 this.2
  exact h _ _ (A.mem_nums.1 hr).1 (A.mem_nums.1 hr).2 this.1 this.2
theorem A.Best.congr {n : Nat} {c c' : Nat → Nat → Int} {N : Nat → Nat} (hb : A.Best n c N) (h : ∀ r j, 1 ≤ r → r ≤ n → 1 ≤ j → j ≤ n → c r j = c' r j) : A.Best n c' N where
  pf := hb.pf
  min := fun N' hN' => by rw [← A.tot_congr hb.pf h, ← A.tot_congr hN' h]; exact hb.min N' hN'
  lex := fun N' hN' e r h1 h2 h3 => hb.lex N' hN' (by rw [A.tot_congr hb.pf h, A.tot_congr hN' h]; exact e) r h1 h2 h3
theorem I.mtx_cst (nx od : List I.Rg) (n : Nat) : ∀ r j, 1 ≤ r → r ≤ n → 1 ≤ j → j ≤ n → C.cst (I.mtx nx od n n) r j = I.cst nx od r j := by
  intro r j h1 h2 h3 h4
  have e1 : (I.mtx nx od n n).getD (r - 1) [] = I.mrow nx od (r - 1) n := by simp [I.mtx, List.getD, show r - 1 < n by omega]
  unfold C.cst
  rw [e1]
  simp [I.mrow, List.getD, show j - 1 < n by omega, I.cst]
/-- Solve over the table of the costs. -/
theorem solve_mtx (nx od : List I.Rg) (n : Nat) (hn : n ≤ 40) (v : Value) (base : Nat) (rs : List (Option Addr × Nat × List Int)) (w : World) (h : C.Om w base v rs) (hm : C.mt rs = I.mtx nx od n n) (hl : rs.length = n) :
    Calls Try.prog 28 #[v] w fun e w' => ∃ Ar ca N, e = .returned (.tuple #[.slice Ar n ca, .int .i64 0]) ∧ Below w.heap.size w w' ∧ w'.ownsRow w.heap.size 3 1 (.slice Ar n ca) n (C.ns (C.asg n N)) ∧ A.Best n (I.cst nx od) N := by
  have hq := I.mtx_sq nx od hn
  rw [← hm] at hq
  obtain ⟨A1, c1, rfl, hmx⟩ := h.mx (by simp only [maxLen]; omega) (fun r hr => by
    have h1 := hq.2.1 _ (List.mem_map.2 ⟨r, hr, rfl⟩)
    have h2 := hq.1
    simp only [maxLen]; omega)
  have SV := Solve_any w.heap.size A1 c1 rs w hmx (Nat.le_refl _)
  unfold C.SolveOut at SV
  rw [show (C.mt rs).length = rs.length from by simp [C.mt], hl] at SV
  rw [hl]
  refine SV.mono ?_
  rintro e w' ⟨hb, ⟨hz, _⟩ | ⟨_, Ar, ca, N, rfl, h1, h2, h3⟩⟩
  · exact absurd (C.chk_of_sq hq) hz
  · exact ⟨Ar, ca, N, rfl, hb, h3, h2.congr (by rw [hm]; exact I.mtx_cst nx od n)⟩
end Go.Proofs.Ytoemhphgnpedmaa
