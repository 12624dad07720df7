/-
  A table of the call's own that the statements turn. By an AI agent.
-/
import Derived.Lib.SliceRun
import Derived.Laws.CopyOwn
import Derived.Test.YtnekhlklflgodaaLa4
namespace Go.Proofs.Ytnekhlklflgodaa
open Go.RowKit

theorem C.Om.at_out {w : World} {base : Nat} {g c : Nat} {rs : List (Option Addr × Nat × List Int)} {n : Nat} (h : C.Om w base (.slice (some ⟨g, 0, none⟩) n c) rs) (hn : rs.length = n) : base ≤ g ∧ g < w.heap.size ∧ ∀ k (hk : k < rs.length), w.cell? ⟨g, k, none⟩ = some (.slice rs[k].1 rs[k].2.2.length rs[k].2.1) := by
  subst hn
  obtain ⟨h1, h2⟩ := h.out.lt g rfl
  refine ⟨h1, h2, fun k hk => ?_⟩
  rw [h.out.cellAt k (by omega)]
  simp [hk, C.slv]
theorem C.Om.shape {w : World} {base : Nat} {v : Value} {rs : List (Option Addr × Nat × List Int)} (h : C.Om w base v rs) (hn : 0 < rs.length) : ∃ g c, v = .slice (some ⟨g, 0, none⟩) rs.length c := by
  rcases h.out.2 with ⟨_, h0⟩ | ⟨g, cap, cur, hv, _⟩
  · omega
  · exact ⟨g, cap, hv⟩
theorem C.Om.at_row {w : World} {base : Nat} {v : Value} {rs : List (Option Addr × Nat × List Int)} (h : C.Om w base v rs) {i : Nat} (hi : i < rs.length) :
    ∃ g, rs[i].1 = some ⟨g, 0, none⟩ ∧ base ≤ g ∧ g < w.heap.size ∧ (∀ j, w.frozen? ⟨g, j, none⟩ = false) ∧ (∀ j (hj : j < rs[i].2.2.length), w.cell? ⟨g, j, none⟩ = some (.int .i64 rs[i].2.2[j])) ∧
      ∀ (j : Nat) (x : Int), C.Om (w.setCell ⟨g, j, none⟩ (.int .i64 x)) base v (rs.set i (rs[i].1, rs[i].2.1, rs[i].2.2.set j x)) := by
  have hrow := h.row _ (List.getElem_mem hi)
  have hne := h.ne _ (List.getElem_mem hi)
  have hdio := h.dio _ (List.getElem_mem hi)
  obtain ⟨g, cap, e⟩ : ∃ g cap, C.slv rs[i] = .slice (some ⟨g, 0, none⟩) rs[i].2.2.length cap := by
    rcases hrow.2 with ⟨e, _⟩ | ⟨g, cap, cur, e, _⟩
    · rw [e] at hne; exact absurd rfl hne
    · exact ⟨g, cap, e⟩
  have e1 : rs[i].1 = some ⟨g, 0, none⟩ := by unfold C.slv at e; injection e
  have e2 : rs[i].2.1 = cap := by unfold C.slv at e; injection e
  have eb : (C.slv rs[i]).ownBlock = some g := by rw [e]; rfl
  obtain ⟨h1, h2⟩ := hrow.lt g eb
  have hrow' := hrow
  rw [e] at hrow'
  refine ⟨g, e1, h1, h2, fun j => hrow'.frozenAt j, fun j hj => ?_, fun j x => ?_⟩
  · rw [hrow'.cellAt j (by omega)]
    simp [C.ns, hj]
  · have hst := hrow'.stored j (.int .i64 x)
    have hmap : ∀ r ∈ rs.set i (rs[i].1, rs[i].2.1, rs[i].2.2.set j x), ∃ k, ∃ hk : k < rs.length, C.slv r = C.slv rs[k] := by
      intro r hr
      obtain ⟨k, hk, rfl⟩ := List.mem_iff_getElem.1 hr
      have hk' : k < rs.length := by simpa using hk
      refine ⟨k, hk', ?_⟩
      rw [List.getElem_set]
      split
      · rename_i hik; subst hik; simp [C.slv]
      · rfl
    refine ⟨?_, fun r hr => ?_, ?_, fun r hr => ?_, fun r hr => ?_⟩
    · have hk := h.out.kept hst.2 (.inr (by rw [← eb]; exact hdio.symm))
      have : (rs.set i (rs[i].1, rs[i].2.1, rs[i].2.2.set j x)).map C.slv = rs.map C.slv := by
        refine List.ext_getElem (by simp) fun k h1 h2 => ?_
        simp only [List.getElem_map, List.getElem_set]
        split
        · rename_i hik; subst hik; simp [C.slv]
        · rfl
      rw [this, List.length_set]
      exact hk
    · obtain ⟨k, hk, rfl⟩ := List.mem_iff_getElem.1 hr
      have hk' : k < rs.length := by simpa using hk
      rw [List.getElem_set]
      split
      · rename_i hik
        subst hik
        have := hst.1
        have hs : C.slv (rs[i].1, rs[i].2.1, rs[i].2.2.set j x) = C.slv rs[i] := by simp [C.slv]
        rw [hs, e]
        show World.ownsRow _ base 3 1 _ (rs[i].2.2.set j x).length _
        rw [List.length_set, show C.ns (rs[i].2.2.set j x) = (C.ns rs[i].2.2).set j (.int .i64 x) from by simp [C.ns]]
        exact this
      · rename_i hik
        refine (h.row _ (List.getElem_mem hk')).kept hst.2 (.inr ?_)
        rw [← eb]
        intro ee
        rcases Nat.lt_trichotomy k i with hlt | heq | hgt
        · exact List.pairwise_iff_getElem.1 h.dis k i hk' hi hlt ee
        · exact hik heq.symm
        · exact List.pairwise_iff_getElem.1 h.dis i k hi hk' hgt ee.symm
    · rw [List.pairwise_iff_getElem]
      intro a b ha hb hab
      have ha' : a < rs.length := by simpa using ha
      have hb' : b < rs.length := by simpa using hb
      have := List.pairwise_iff_getElem.1 h.dis a b ha' hb' hab
      have sa : C.slv (rs.set i (rs[i].1, rs[i].2.1, rs[i].2.2.set j x))[a] = C.slv rs[a] := by
        rw [List.getElem_set]; split
        · rename_i hik; subst hik; simp [C.slv]
        · rfl
      have sb : C.slv (rs.set i (rs[i].1, rs[i].2.1, rs[i].2.2.set j x))[b] = C.slv rs[b] := by
        rw [List.getElem_set]; split
        · rename_i hik; subst hik; simp [C.slv]
        · rfl
      rw [sa, sb]
      exact this
    · obtain ⟨k, hk, ek⟩ := hmap r hr
      rw [ek]; exact h.dio _ (List.getElem_mem hk)
    · obtain ⟨k, hk, ek⟩ := hmap r hr
      rw [ek]; exact h.ne _ (List.getElem_mem hk)
theorem C.Om.drew {w : World} {base : Nat} {v : Value} {rs : List (Option Addr × Nat × List Int)} (h : C.Om w base v rs) : C.Om w.drew base v rs := ⟨h.out, h.row, h.dis, h.dio, h.ne⟩

/-- A number of a table. -/
def C.at2 (m : List (List Int)) (a b : Nat) : Int := (m.getD a []).getD b 0
theorem C.at2_get {m : List (List Int)} {a b : Nat} (ha : a < m.length) (hb : b < m[a].length) : C.at2 m a b = m[a][b] := by simp [C.at2, List.getD, ha, hb]
theorem C.at2_rs (rs : List (Option Addr × Nat × List Int)) {a b : Nat} (ha : a < rs.length) (hb : b < rs[a].2.2.length) : C.at2 (C.mt rs) a b = rs[a].2.2[b] := by simp [C.at2, C.mt, List.getD, ha, hb]
theorem C.cst_at2 (m : List (List Int)) (r j : Nat) : C.cst m r j = C.at2 m (r - 1) (j - 1) := rfl
theorem C.getD_nil (m : List (List Int)) {a : Nat} (h : a < m.length) : m.getD a [] = m[a] := by simp [List.getD, h]
/-- One number turned. -/
def C.turn (m : List (List Int)) (a b : Nat) (x : Int) : List (List Int) := m.set a ((m.getD a []).set b x)
theorem C.turn_len (m : List (List Int)) (a b : Nat) (x : Int) : (C.turn m a b x).length = m.length := by simp [C.turn]
theorem C.turn_row {m : List (List Int)} {n : Nat} (a b : Nat) (x : Int) (hm : ∀ r ∈ m, r.length = n) : ∀ r ∈ C.turn m a b x, r.length = n := by
  intro r hr
  unfold C.turn at hr
  by_cases ha : a < m.length
  · rcases List.mem_or_eq_of_mem_set hr with hr | hr
    · exact hm r hr
    · subst hr
      rw [List.length_set, C.getD_nil _ ha]
      exact hm _ (List.getElem_mem ha)
  · rw [List.set_eq_of_length_le (by omega)] at hr
    exact hm r hr
theorem C.turn_at {m : List (List Int)} {n a b : Nat} (x : Int) (hm : ∀ r ∈ m, r.length = n) (ha : a < m.length) (hb : b < n) (c d : Nat) : C.at2 (C.turn m a b x) c d = if c = a ∧ d = b then x else C.at2 m c d := by
  have hl : m[a].length = n := hm _ (List.getElem_mem ha)
  unfold C.at2 C.turn
  by_cases hc : c = a
  · subst hc
    have e : (m.set c ((m.getD c []).set b x)).getD c [] = m[c].set b x := by simp [List.getD, ha]
    rw [e, show m.getD c [] = m[c] from by simp [List.getD, ha]]
    by_cases hd : d = b
    · subst hd; simp [List.getD, hl, hb]
    · rw [if_neg (by rintro ⟨_, h⟩; exact hd h)]
      simp [List.getD, List.getElem?_set_ne (Ne.symm hd)]
  · rw [if_neg (by rintro ⟨h, _⟩; exact hc h)]
    simp [List.getD, List.getElem?_set_ne (Ne.symm hc)]
theorem C.turn_mt {rs : List (Option Addr × Nat × List Int)} {i : Nat} (hi : i < rs.length) (j : Nat) (x : Int) : C.mt (rs.set i (rs[i].1, rs[i].2.1, rs[i].2.2.set j x)) = C.turn (C.mt rs) i j x := by
  unfold C.mt C.turn
  rw [List.map_set, C.getD_nil _ (by simpa using hi), List.getElem_map]
theorem C.sq_of_at {m : List (List Int)} {n : Nat} (hn : n ≤ 40) (hl : m.length = n) (hm : ∀ r ∈ m, r.length = n) (h : ∀ a b, a < n → b < n → 0 ≤ C.at2 m a b ∧ C.at2 m a b ≤ 1000000) : C.Sq m := by
  refine ⟨by omega, fun r hr => (hm r hr).trans hl.symm, fun r hr x hx => ?_⟩
  obtain ⟨a, ha, rfl⟩ := List.mem_iff_getElem.1 hr
  obtain ⟨b, hb, rfl⟩ := List.mem_iff_getElem.1 hx
  have := h a b (by omega) (by rw [hm _ (List.getElem_mem ha)] at hb; exact hb)
  rw [C.at2_get ha hb] at this
  unfold A.M
  omega
theorem C.at2_range {m : List (List Int)} (h : C.Sq m) (a b : Nat) : 0 ≤ C.at2 m a b ∧ C.at2 m a b ≤ 1000000 := by
  unfold C.at2
  by_cases h1 : a < m.length
  · have e1 : m.getD a [] = m[a] := by simp [List.getD, h1]
    rw [e1]
    by_cases h2 : b < m[a].length
    · have e2 : m[a].getD b 0 = m[a][b] := by simp [List.getD, h2]
      rw [e2]
      have := h.2.2 _ (List.getElem_mem h1) _ (List.getElem_mem h2)
      unfold A.M at this
      exact this
    · have e2 : m[a].getD b 0 = 0 := by simp [List.getD, h2]
      rw [e2]; omega
  · have e1 : m.getD a [] = [] := by simp [List.getD, h1]
    rw [e1]; simp
theorem C.Om.mxB {w : World} {base : Nat} {v : Value} {rs : List (Option Addr × Nat × List Int)} {n : Nat} (h : C.Om w base v rs) (hn : n ≤ 40) (hl : rs.length = n) (hr : ∀ r ∈ C.mt rs, r.length = n) : ∃ A c, v = .slice A n c ∧ C.Mx w w.heap.size A rs := by
  subst hl
  exact h.mx (by simp only [maxLen]; omega) (fun r hr' => by
    have := hr _ (List.mem_map.2 ⟨r, hr', rfl⟩)
    simp only [maxLen]
    omega)
/-- What Solve says of a table that is well formed. -/
theorem solve_sq (n : Nat) (A1 : Option Addr) (c1 : Nat) (rs : List (Option Addr × Nat × List Int)) (w : World) (h : C.Mx w w.heap.size A1 rs) (hq : C.Sq (C.mt rs)) (hl : rs.length = n) :
    Calls Try.prog 11 #[.slice A1 n c1] w fun e w' => ∃ Ar ca N, e = .returned (.tuple #[.slice Ar n ca, .int .i64 0]) ∧ Below w.heap.size w w' ∧ Reads w' w'.heap.size 1 Ar n (C.ns (C.asg n N)) ∧ A.Best n (C.cst (C.mt rs)) N := by
  subst hl
  have SV := Solve_any w.heap.size A1 c1 rs w h (Nat.le_refl _)
  unfold C.SolveOut at SV
  rw [show (C.mt rs).length = rs.length from by simp [C.mt]] at SV
  refine SV.mono ?_
  rintro e w' ⟨hb, ⟨hz, _⟩ | ⟨_, Ar, ca, N, rfl, h1, h2⟩⟩
  · exact absurd (C.chk_of_sq hq) hz
  · exact ⟨Ar, ca, N, rfl, hb, h1, h2⟩
/-- What Total says of an assignment. -/
theorem total_sq (n : Nat) (A1 A2 : Option Addr) (c1 c2 : Nat) (rs : List (Option Addr × Nat × List Int)) (N : Nat → Nat) (w : World) (h : C.Mx w w.heap.size A1 rs) (hq : C.Sq (C.mt rs)) (hl : rs.length = n) (hr : Reads w w.heap.size 1 A2 n (C.ns (C.asg n N))) (hN : A.Pf n N) :
    Calls Try.prog 13 #[.slice A1 n c1, .slice A2 n c2] w fun e w' => e = .returned (.tuple #[.int .i64 (A.tot n (C.cst (C.mt rs)) N), .int .i64 0]) ∧ Below w.heap.size w w' := by
  have hlm : (C.mt rs).length = n := by simp [C.mt, hl]
  have h40 : n ≤ 40 := by have := hq.1; omega
  have T := Total_any w.heap.size A1 A2 c1 c2 rs (C.asg n N) w h (by rw [C.asg_len]; exact hr) (by rw [C.asg_len]; simp only [maxLen]; omega) (Nat.le_refl _)
  have e := C.asg_tot (m := C.mt rs) (N := N) hq (by rw [hlm]; exact hN)
  rw [hlm] at e
  rw [C.asg_len, hl, e, C.asg_sum] at T
  exact T

/-- The table with rows and columns exchanged, as far as it is made. -/
structure C.Tp (n : Nat) (m t : List (List Int)) (i j : Nat) : Prop where
  len : t.length = n
  row : ∀ r ∈ t, r.length = n
  eq : ∀ a b, a < n → b < n → (b < i ∨ b = i ∧ a < j) → C.at2 t a b = C.at2 m b a
theorem C.Tp.step {n : Nat} {m t : List (List Int)} {i j : Nat} (h : C.Tp n m t i j) (hi : i < n) (hj : j < n) : C.Tp n m (C.turn t j i (C.at2 m i j)) i (j + 1) := by
  refine ⟨by rw [C.turn_len]; exact h.len, C.turn_row _ _ _ h.row, fun a b ha hb hab => ?_⟩
  rw [C.turn_at _ h.row (by rw [h.len]; exact hj) hi]
  by_cases e : a = j ∧ b = i
  · rw [if_pos e, e.1, e.2]
  · rw [if_neg e]
    exact h.eq a b ha hb (by omega)
theorem C.Tp.next {n : Nat} {m t : List (List Int)} {i j : Nat} (h : C.Tp n m t i j) (hj : n ≤ j) : C.Tp n m t (i + 1) 0 := ⟨h.len, h.row, fun a b ha hb hab => h.eq a b ha hb (by omega)⟩
theorem C.Tp.fin {n : Nat} {m t : List (List Int)} {i : Nat} (h : C.Tp n m t i 0) (hi : n ≤ i) (hn : n ≤ 40) (hq : C.Sq m) : C.Sq t ∧ ∀ r j, 1 ≤ r → r ≤ n → 1 ≤ j → j ≤ n → C.cst t r j = C.cst m j r := by
  refine ⟨C.sq_of_at hn h.len h.row fun a b ha hb => ?_, fun r j h1 h2 h3 h4 => ?_⟩
  · rw [h.eq a b ha hb (.inl (by omega))]
    exact C.at2_range hq b a
  · rw [C.cst_at2, C.cst_at2]
    exact h.eq _ _ (by omega) (by omega) (.inl (by omega))
end Go.Proofs.Ytnekhlklflgodaa
