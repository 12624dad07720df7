/-
  The plain mathematics of layer 29: the shortest path's round, and passing the columns on. By an AI agent.
-/
import Derived.Test.YtoemhphgnpedmaaAPlain
namespace Go.Proofs.Ytoemhphgnpedmaa
namespace A
section
variable {n : Nat} {c : Nat → Nat → Int}

/-- What the correction of the numbers leaves after the columns below m. -/
structure Adj (u v L : Nat → Int) (p : Nat → Nat) (dn : Nat → Bool) (de : Int) (u2 v2 L2 : Nat → Int) (m : Nat) : Prop where
  uu : ∀ r, ((∃ d, d < m ∧ dn d = true ∧ p d = r) → u2 r = u r + de) ∧ ((¬ ∃ d, d < m ∧ dn d = true ∧ p d = r) → u2 r = u r)
  vv : ∀ j, v2 j = if j < m ∧ dn j = true then v j - de else v j
  ll : ∀ j, L2 j = if j < m ∧ dn j = false then L j - de else L j

theorem adj_start (u v L : Nat → Int) (p : Nat → Nat) (dn : Nat → Bool) (de : Int) : Adj u v L p dn de u v L 0 where
  uu r := ⟨fun ⟨d, h, _⟩ => absurd h (Nat.not_lt_zero _), fun _ => rfl⟩
  vv j := by rw [if_neg (by omega)]
  ll j := by rw [if_neg (by omega)]

theorem adj_done {u v L : Nat → Int} {p : Nat → Nat} {dn : Nat → Bool} {de : Int} {u2 v2 L2 : Nat → Int} {m : Nat} (h : Adj u v L p dn de u2 v2 L2 m) (hm : dn m = true)
    (hi : ∀ d, d < m → dn d = true → p d ≠ p m) : Adj u v L p dn de (upd u2 (p m) (u2 (p m) + de)) (upd v2 m (v2 m - de)) L2 (m + 1) where
  uu r := by
    by_cases e : r = p m
    · subst e
      refine ⟨fun _ => ?_, fun hn => absurd ⟨m, by omega, hm, rfl⟩ hn⟩
      rw [upd_same, (h.uu (p m)).2 (by rintro ⟨d, h1, h2, h3⟩; exact hi d h1 h2 h3)]
    · rw [upd_ne _ _ e]
      refine ⟨fun ⟨d, h1, h2, h3⟩ => (h.uu r).1 ⟨d, ?_, h2, h3⟩, fun hn => (h.uu r).2 (by rintro ⟨d, h1, h2, h3⟩; exact hn ⟨d, by omega, h2, h3⟩)⟩
      by_cases hd : d = m
      · subst hd; exact absurd h3.symm e
      · omega
  vv j := by
    by_cases e : j = m
    · subst e
      rw [upd_same, h.vv, if_neg (by omega), if_pos ⟨by omega, hm⟩]
    · rw [upd_ne _ _ e, h.vv]
      by_cases hj : j < m
      · by_cases hd : dn j = true
        · rw [if_pos ⟨hj, hd⟩, if_pos ⟨by omega, hd⟩]
        · rw [if_neg (fun x => hd x.2), if_neg (fun x => hd x.2)]
      · rw [if_neg (fun x => hj x.1), if_neg (by rintro ⟨x, _⟩; omega)]
  ll j := by
    rw [h.ll]
    by_cases e : j = m
    · subst e
      rw [if_neg (by omega), if_neg (by rw [hm]; simp)]
    · by_cases hj : j < m
      · by_cases hd : dn j = false
        · rw [if_pos ⟨hj, hd⟩, if_pos ⟨by omega, hd⟩]
        · rw [if_neg (fun x => hd x.2), if_neg (fun x => hd x.2)]
      · rw [if_neg (fun x => hj x.1), if_neg (by rintro ⟨x, _⟩; omega)]

theorem adj_open {u v L : Nat → Int} {p : Nat → Nat} {dn : Nat → Bool} {de : Int} {u2 v2 L2 : Nat → Int} {m : Nat} (h : Adj u v L p dn de u2 v2 L2 m) (hm : dn m = false) :
    Adj u v L p dn de u2 v2 (upd L2 m (L2 m - de)) (m + 1) where
  uu r := by
    refine ⟨fun ⟨d, h1, h2, h3⟩ => (h.uu r).1 ⟨d, ?_, h2, h3⟩, fun hn => (h.uu r).2 (by rintro ⟨d, h1, h2, h3⟩; exact hn ⟨d, by omega, h2, h3⟩)⟩
    by_cases hd : d = m
    · subst hd; rw [hm] at h2; cases h2
    · omega
  vv j := by
    rw [h.vv]
    by_cases e : j = m
    · subst e
      rw [if_neg (by omega), if_neg (by rw [hm]; simp)]
    · by_cases hj : j < m
      · by_cases hd : dn j = true
        · rw [if_pos ⟨hj, hd⟩, if_pos ⟨by omega, hd⟩]
        · rw [if_neg (fun x => hd x.2), if_neg (fun x => hd x.2)]
      · rw [if_neg (fun x => hj x.1), if_neg (by rintro ⟨x, _⟩; omega)]
  ll j := by
    by_cases e : j = m
    · subst e
      rw [upd_same, h.ll, if_neg (by omega), if_pos ⟨by omega, hm⟩]
    · rw [upd_ne _ _ e, h.ll]
      by_cases hj : j < m
      · by_cases hd : dn j = false
        · rw [if_pos ⟨hj, hd⟩, if_pos ⟨by omega, hd⟩]
        · rw [if_neg (fun x => hd x.2), if_neg (fun x => hd x.2)]
      · rw [if_neg (fun x => hj x.1), if_neg (by rintro ⟨x, _⟩; omega)]

variable {k : Nat} {u v : Nat → Int} {p : Nat → Nat} {dn : Nat → Bool} {L : Nat → Int} {F : Nat → Nat} {a t : Nat} {s : Int} {rk : Nat → Nat}

theorem dij_row (h : Dij n c k u v p dn L F a t s rk) (hk : k < n) {d : Nat} (hd : dn d = true ∨ d = a) (hp : p a ≠ 0) : 1 ≤ p d ∧ p d ≤ k + 1 ∧ p d ≤ n ∧ d ≤ n := by
  have hdn : d ≤ n ∧ p d ≠ 0 := by
    rcases hd with hd | rfl
    · exact ⟨(h.dnle d hd).1, (h.dnle d hd).2.1⟩
    · exact ⟨h.ale.1, hp⟩
  by_cases e : d = 0
  · subst e; rw [h.p0]; omega
  · have := h.le d (by omega) hdn.1; omega
theorem dij_inj (h : Dij n c k u v p dn L F a t s rk) {d d' : Nat} (h1 : d ≤ n) (h2 : d' ≤ n) (h3 : p d ≠ 0) (e : p d = p d') : d = d' := by
  by_cases e0 : d = 0
  · subst e0
    by_cases e1 : d' = 0
    · exact e1.symm
    · have := h.le d' (by omega) h2; rw [h.p0] at e; omega
  · by_cases e1 : d' = 0
    · subst e1; have := h.le d (by omega) h1; rw [h.p0] at e; omega
    · exact h.inj d d' (by omega) h1 (by omega) h2 h3 e
theorem dij_hun_free (h : Dij n c k u v p dn L F a t s rk) (hk : k < n) : ∃ f, 1 ≤ f ∧ f ≤ n ∧ p f = 0 := by
  by_cases hx : ∃ f, 1 ≤ f ∧ f ≤ n ∧ p f = 0
  · exact hx
  · exfalso
    have h1 := nodup_len (l := (nums n).map p) (m := nums k) (nodup_map p (nodup_nums n) (fun x hx' y hy e => by
      rw [mem_nums] at hx' hy
      exact h.inj x y hx'.1 hx'.2 hy.1 hy.2 (fun e0 => hx ⟨x, hx'.1, hx'.2, e0⟩) e)) (fun z hz => by
      obtain ⟨x, hx', rfl⟩ := List.mem_map.1 hz
      rw [mem_nums] at hx'
      have := h.le x hx'.1 hx'.2
      have : p x ≠ 0 := fun e0 => hx ⟨x, hx'.1, hx'.2, e0⟩
      exact mem_nums.2 ⟨by omega, by omega⟩)
    rw [List.length_map, len_nums, len_nums] at h1
    omega

/-- A scan finds a column. -/
theorem scan_next (h : Dij n c k u v p dn L F a t s rk) (hk : k < n) (hc : ∀ r j, 1 ≤ r → r ≤ n → 1 ≤ j → j ≤ n → 0 ≤ c r j ∧ c r j ≤ M) (hp : p a ≠ 0)
    {L' : Nat → Int} {F' : Nat → Nat} {nx : Nat} {de : Int} (hs : Scan (c := c) u v p (upd dn a true) a L L' F F' (n + 1) nx de) :
    nx ≠ 0 ∧ 0 ≤ de ∧ (∀ f, 1 ≤ f → f ≤ n → p f = 0 → L' f + s ≤ M) ∧ de + s ≤ M ∧ (∀ j, 1 ≤ j → j ≤ n → upd dn a true j = false → 0 ≤ L' j) := by
  obtain ⟨f, f1, f2, f3⟩ := dij_hun_free h hk
  have hrow := dij_row h hk (d := a) (.inr rfl) hp
  have hund : ∀ f, p f = 0 → upd dn a true f = false := by
    intro f hf
    have e : f ≠ a := by rintro rfl; exact hp hf
    rw [upd_ne _ _ e]
    cases hd : dn f with
    | false => rfl
    | true => exact absurd hf (h.dnle f hd).2.1
  have hLf : ∀ f, 1 ≤ f → f ≤ n → p f = 0 → L' f + s ≤ M := by
    intro f f1 f2 f3
    have hx := (hs.upto f f1 (by omega) (hund f f3)).1
    rcases Nat.eq_zero_or_pos t with ht | ht
    · obtain ⟨s1, s2, s3, s4, s5⟩ := h.start ht
      subst s1
      rw [h.p0, s4, h.vz f f1 f2 f3] at hx
      have := (hc (k + 1) f (by omega) (by omega) f1 f2).2
      omega
    · have := h.lf ht f f1 f2 f3
      omega
  have hnn : ∀ j, 1 ≤ j → j ≤ n → upd dn a true j = false → 0 ≤ L' j := by
    intro j j1 j2 j3
    have hx := (hs.upto j j1 (by omega) j3).1
    have hf := h.feas (p a) j hrow.1 hrow.2.2.1 j1 j2
    have hj : dn j = false := by
      by_cases e : j = a
      · subst e; rw [upd_same] at j3; cases j3
      · rwa [upd_ne _ _ e] at j3
    rcases Nat.eq_zero_or_pos t with ht | ht
    · have := (h.start ht).2.2.2.2 j j1 j2
      unfold never at this
      omega
    · have := (h.lo ht j j1 j2 hj).1
      omega
  have hne : nx ≠ 0 := by
    intro e
    have h1 := (hs.none_ e).2 f f1 (by omega) (hund f f3)
    have h2 := hLf f f1 f2 f3
    have := h.sle
    unfold never at h1
    unfold M at h2
    omega
  obtain ⟨n1, n2, n3, n4, n5⟩ := hs.some_ hne
  refine ⟨hne, ?_, hLf, ?_, hnn⟩
  · rw [n3]; exact hnn nx (by omega) (by omega) n2
  · have := n5 f f1 (by omega) (hund f f3)
    have := hLf f f1 f2 f3
    omega

/-- A round. -/
theorem dij_round (h : Dij n c k u v p dn L F a t s rk) (hk : k < n) (hn : n ≤ 40) (hc : ∀ r j, 1 ≤ r → r ≤ n → 1 ≤ j → j ≤ n → 0 ≤ c r j ∧ c r j ≤ M) (hp : p a ≠ 0)
    {L' : Nat → Int} {F' : Nat → Nat} {nx : Nat} {de : Int} (hs : Scan (c := c) u v p (upd dn a true) a L L' F F' (n + 1) nx de)
    {u2 v2 L2 : Nat → Int} (ha : Adj u v L' p (upd dn a true) de u2 v2 L2 (n + 1)) :
    Dij n c k u2 v2 p (upd dn a true) L2 F' nx (t + 1) (s + de) (upd rk nx (t + 1)) := by
  obtain ⟨hne, hde, hLf, hds, hnn⟩ := scan_next h hk hc hp hs
  obtain ⟨n1, n2, n3, n4, n5⟩ := hs.some_ hne
  have hmem : ∀ d, upd dn a true d = true ↔ (dn d = true ∨ d = a) := by
    intro d
    by_cases e : d = a
    · subst e; simp
    · rw [upd_ne _ _ e]; simp [e]
  have hrow : ∀ d, upd dn a true d = true → 1 ≤ p d ∧ p d ≤ k + 1 ∧ p d ≤ n ∧ d ≤ n := fun d hd => dij_row h hk ((hmem d).1 hd) hp
  have hu : ∀ d, upd dn a true d = true → u2 (p d) = u (p d) + de := fun d hd => (ha.uu _).1 ⟨d, by have := (hrow d hd).2.2.2; omega, hd, rfl⟩
  have hu0 : ∀ r, (∀ d, upd dn a true d = true → p d ≠ r) → u2 r = u r := fun r hr => (ha.uu r).2 (by rintro ⟨d, _, h2, h3⟩; exact hr d h2 h3)
  have huc : ∀ r, u2 r = u r + de ∨ u2 r = u r := fun r => by
    by_cases hx : ∃ d, d < n + 1 ∧ upd dn a true d = true ∧ p d = r
    · exact .inl ((ha.uu r).1 hx)
    · exact .inr ((ha.uu r).2 hx)
  have hv1 : ∀ j, j ≤ n → upd dn a true j = true → v2 j = v j - de := fun j h1 h2 => by rw [ha.vv, if_pos ⟨by omega, h2⟩]
  have hv0 : ∀ j, upd dn a true j = false → v2 j = v j := fun j h2 => by rw [ha.vv, if_neg (by rw [h2]; simp)]
  have hl : ∀ j, j ≤ n → upd dn a true j = false → L2 j = L' j - de := fun j h1 h2 => by rw [ha.ll, if_pos ⟨by omega, h2⟩]
  have hdn0 : ∀ j, upd dn a true j = false → dn j = false := fun j hj => by
    cases hd : dn j with
    | false => rfl
    | true => rw [(hmem j).2 (.inl hd)] at hj; cases hj
  -- the least slack over all that is done
  have hlo : ∀ j, 1 ≤ j → j ≤ n → upd dn a true j = false → (∀ d, upd dn a true d = true → L' j ≤ c (p d) j - u (p d) - v j) ∧ upd dn a true (F' j) = true ∧ L' j = c (p (F' j)) j - u (p (F' j)) - v j := by
    intro j j1 j2 j3
    obtain ⟨x1, x2⟩ := hs.upto j j1 (by omega) j3
    have hj := hdn0 j j3
    rcases Nat.eq_zero_or_pos t with ht | ht
    · obtain ⟨s1, s2, s3, s4, s5⟩ := h.start ht
      have hb := h.bv j j1 j2
      have hs4 : c (p a) j - u (p a) - v j < L j := by
        rw [s1, h.p0, s4, s5 j j1 j2]
        have := (hc (k + 1) j (by omega) (by omega) j1 j2).2
        have hkm : (k : Int) * M ≤ 40 * M := Int.mul_le_mul_of_nonneg_right (by omega) (by unfold M; omega)
        unfold never
        unfold M at this hb hkm
        omega
      rw [if_pos hs4] at x2
      refine ⟨fun d hd => ?_, ?_, ?_⟩
      · rcases (hmem d).1 hd with hd | rfl
        · rw [s2 d] at hd; cases hd
        · omega
      · rw [x2]; exact (hmem a).2 (.inr rfl)
      · rw [x2]; omega
    · obtain ⟨l1, l2, l3, l4⟩ := h.lo ht j j1 j2 hj
      refine ⟨fun d hd => ?_, ?_, ?_⟩
      · rcases (hmem d).1 hd with hd | rfl
        · have := l2 d hd; omega
        · omega
      · rw [x2]
        split
        · exact (hmem a).2 (.inr rfl)
        · exact (hmem _).2 (.inl l3)
      · rw [x2]
        split
        · omega
        · omega
  have hk1 : 1 ≤ nx := by omega
  have hne' : ∀ d, upd dn a true d = true → d ≠ nx := by rintro d hd rfl; rw [n2] at hd; cases hd
  exact {
    feas := fun r j r1 r2 j1 j2 => by
      have hf := h.feas r j r1 r2 j1 j2
      cases hj : upd dn a true j with
      | true => rw [hv1 j j2 hj]; rcases huc r with e | e <;> omega
      | false =>
        rw [hv0 j hj]
        by_cases hx : ∃ d, d < n + 1 ∧ upd dn a true d = true ∧ p d = r
        · rw [(ha.uu r).1 hx]
          obtain ⟨d, _, d2, rfl⟩ := hx
          have h1 := (hlo j j1 j2 hj).1 d d2
          have h2 := n5 j j1 (by omega) hj
          omega
        · rw [(ha.uu r).2 hx]; exact hf
    uz := fun r r1 r2 => by
      rw [hu0 r (fun d hd e => by have := (hrow d hd).2.1; omega)]
      exact h.uz r r1 r2
    p0 := h.p0
    le := h.le
    tight := fun j j1 j2 j3 => by
      have ht := h.tight j j1 j2 j3
      cases hj : upd dn a true j with
      | true => rw [hu j hj, hv1 j j2 hj]; omega
      | false =>
        rw [hv0 j hj, hu0 (p j) (fun d hd e => by
          have := dij_inj h (hrow d hd).2.2.2 j2 (by have := (hrow d hd).1; omega) e
          subst this
          rw [hj] at hd; cases hd)]
        exact ht
    inj := h.inj
    sur := h.sur
    vz := fun j j1 j2 j3 => by
      have hj : upd dn a true j = false := by
        cases hd : upd dn a true j with
        | false => rfl
        | true => have := (hrow j hd).1; omega
      rw [hv0 j hj]
      exact h.vz j j1 j2 j3
    bu := fun r r1 r2 => by
      have := h.bu r r1 r2
      rcases huc r with e | e <;> omega
    bv := fun j j1 j2 => by
      have := h.bv j j1 j2
      cases hj : upd dn a true j with
      | true => rw [hv1 j j2 hj]; omega
      | false => rw [hv0 j hj]; omega
    dnle := fun j hj => by
      have h1 := hrow j hj
      refine ⟨h1.2.2.2, by omega, ?_⟩
      rw [upd_ne _ _ (hne' j hj)]
      rcases (hmem j).1 hj with hd | rfl
      · have := (h.dnle j hd).2.2; omega
      · rw [h.ale.2.2]; omega
    ale := ⟨by omega, n2, upd_same _ _ _⟩
    sle := ⟨by have := h.sle; omega, by omega⟩
    start := fun e => by omega
    later := fun _ => ⟨hne, by
      rcases Nat.eq_zero_or_pos t with ht | ht
      · have := (h.start ht).1; exact (hmem 0).2 (.inr this.symm)
      · exact (hmem 0).2 (.inl (h.later ht).2)⟩
    tree := fun j j1 j2 => by
      by_cases e : j = nx
      · subst e
        obtain ⟨h1, h2, h3⟩ := hlo j j1 (by omega) n2
        refine ⟨h2, ?_, ?_⟩
        · rw [hu _ h2, hv0 j n2]; omega
        · rw [upd_same, upd_ne _ _ (hne' _ h2)]
          rcases (hmem _).1 h2 with hd | hd
          · have := (h.dnle _ hd).2.2; omega
          · rw [hd, h.ale.2.2]; omega
      · have hj : upd dn a true j = true := by
          rcases j2 with j2 | j2
          · exact j2
          · exact absurd j2 e
        obtain ⟨t1, t2, t3⟩ := h.tree j j1 ((hmem j).1 hj)
        have hF : F' j = F j := (hs.keep j (.inr (.inr hj))).2
        have t1' := (hmem _).2 (.inl t1)
        rw [hF]
        refine ⟨t1', ?_, ?_⟩
        · rw [hu _ t1', hv1 j (hrow j hj).2.2.2 hj]; omega
        · rw [upd_ne _ _ e, upd_ne _ _ (hne' _ t1')]; exact t3
    lo := fun _ j j1 j2 j3 => by
      obtain ⟨h1, h2, h3⟩ := hlo j j1 j2 j3
      have h4 := n5 j j1 (by omega) j3
      rw [hl j j2 j3]
      refine ⟨by omega, fun d hd => ?_, h2, ?_⟩
      · have := h1 d hd; rw [hu d hd, hv0 j j3]; omega
      · rw [hu _ h2, hv0 j j3]; omega
    lf := fun _ f f1 f2 f3 => by
      have h1 := hLf f f1 f2 f3
      have hf : upd dn a true f = false := by
        cases hd : upd dn a true f with
        | false => rfl
        | true => have := (hrow f hd).1; omega
      rw [hl f f2 hf]
      omega }

/-- How many columns are not done: what every round lowers. -/
def undone (n : Nat) (dn : Nat → Bool) : Nat := ((List.range (n + 1)).filter fun j => !dn j).length
theorem undone_lt {n : Nat} {dn : Nat → Bool} {a : Nat} (h : a ≤ n) (hd : dn a = false) : undone n (upd dn a true) < undone n dn := by
  unfold undone
  have h1 : (List.range (n + 1)).filter (fun j => !upd dn a true j) = ((List.range (n + 1)).filter fun j => !dn j).filter (fun j => decide (j ≠ a)) := by
    rw [List.filter_filter]
    refine List.filter_congr fun j _ => ?_
    by_cases e : j = a
    · subst e; simp
    · rw [upd_ne _ _ e]; simp [e]
  rw [h1]
  have hmem : a ∈ (List.range (n + 1)).filter fun j => !dn j := by simp [hd]; omega
  generalize (List.range (n + 1)).filter (fun j => !dn j) = l at hmem
  clear h1
  induction l with
  | nil => cases hmem
  | cons x l ih =>
    by_cases e : x = a
    · subst e
      rw [List.filter_cons_of_neg (by simp)]
      exact Nat.lt_of_le_of_lt (List.length_filter_le _ _) (by simp)
    · rw [List.filter_cons_of_pos (by simp [e])]
      have := ih (by rcases List.mem_cons.1 hmem with h | h; exact absurd h.symm e; exact h)
      simpa using this

/-- The columns are passed on along the path; 'a' is the one that nobody has. -/
structure Pass (n : Nat) (c : Nat → Nat → Int) (k : Nat) (u v : Nat → Int) (p : Nat → Nat) (dn : Nat → Bool) (F rk : Nat → Nat) (p2 : Nat → Nat) (a : Nat) : Prop where
  low : ∀ j, dn j = true → rk j < rk a → p2 j = p j
  ale : a ≤ n
  tr : 1 ≤ a → dn (F a) = true ∧ u (p (F a)) + v a = c (p (F a)) a ∧ rk (F a) < rk a
  le : ∀ j, j ≤ n → j ≠ a → p2 j ≤ k + 1
  inj : ∀ j j', j ≤ n → j' ≤ n → j ≠ a → j' ≠ a → p2 j ≠ 0 → p2 j = p2 j' → j = j'
  sur : ∀ r, 1 ≤ r → r ≤ k + 1 → ∃ j, j ≤ n ∧ j ≠ a ∧ p2 j = r
  tight : ∀ j, 1 ≤ j → j ≤ n → j ≠ a → p2 j ≠ 0 → u (p2 j) + v j = c (p2 j) j
  vz : ∀ j, 1 ≤ j → j ≤ n → j ≠ a → p2 j = 0 → v j = 0

theorem pass_start (h : Dij n c k u v p dn L F a t s rk) (hp : p a = 0) : a ≠ 0 ∧ Pass n c k u v p dn F rk p a := by
  have ha : a ≠ 0 := by rintro rfl; rw [h.p0] at hp; omega
  refine ⟨ha, {
    low := fun j _ _ => rfl
    ale := h.ale.1
    tr := fun h1 => h.tree a h1 (.inr rfl)
    le := fun j h1 _ => by
      by_cases e : j = 0
      · subst e; rw [h.p0]; omega
      · have := h.le j (by omega) h1; omega
    inj := fun j j' h1 h2 _ _ h5 h6 => dij_inj h h1 h2 h5 h6
    sur := fun r r1 r2 => by
      by_cases e : r = k + 1
      · exact ⟨0, Nat.zero_le _, fun e' => ha e'.symm, by rw [h.p0, e]⟩
      · obtain ⟨j, j1, j2, j3⟩ := h.sur r r1 (by omega)
        exact ⟨j, j2, by rintro rfl; omega, j3⟩
    tight := fun j h1 h2 _ h4 => h.tight j h1 h2 h4
    vz := fun j h1 h2 _ h4 => h.vz j h1 h2 h4 }⟩

theorem pass_step (h : Dij n c k u v p dn L F a t s rk) {p2 : Nat → Nat} {b : Nat} (hb : b ≠ 0) (hx : Pass n c k u v p dn F rk p2 b) : Pass n c k u v p dn F rk (upd p2 b (p2 (F b))) (F b) ∧ rk (F b) < rk b := by
  obtain ⟨t1, t2, t3⟩ := hx.tr (by omega)
  have hlow := hx.low (F b) t1 t3
  obtain ⟨d1, d2, d3⟩ := h.dnle (F b) t1
  have hne : F b ≠ b := by intro e; rw [e] at t3; omega
  refine ⟨{
    low := fun j hj hr => by
      have e : j ≠ b := by rintro rfl; omega
      rw [upd_ne _ _ e]
      exact hx.low j hj (by omega)
    ale := d1
    tr := fun h1 => h.tree (F b) h1 (.inl t1)
    le := fun j h1 h2 => by
      by_cases e : j = b
      · subst e; rw [upd_same]; exact hx.le _ d1 hne
      · rw [upd_ne _ _ e]; exact hx.le j h1 e
    inj := fun j j' h1 h2 h3 h4 h5 h6 => by
      by_cases e : j = b
      · subst e
        by_cases e' : j' = j
        · exact e'.symm
        · rw [upd_same, upd_ne _ _ e'] at h6
          rw [upd_same] at h5
          exact absurd (hx.inj (F j) j' d1 h2 hne e' h5 h6).symm h4
      · rw [upd_ne _ _ e] at h5 h6
        by_cases e' : j' = b
        · subst e'
          rw [upd_same] at h6
          exact absurd (hx.inj j (F j') h1 d1 e hne h5 h6) h3
        · rw [upd_ne _ _ e'] at h6
          exact hx.inj j j' h1 h2 e e' h5 h6
    sur := fun r r1 r2 => by
      obtain ⟨j, j1, j2, j3⟩ := hx.sur r r1 r2
      by_cases e : j = F b
      · subst e
        exact ⟨b, hx.ale, fun e' => hne e'.symm, by rw [upd_same, j3]⟩
      · exact ⟨j, j1, e, by rw [upd_ne _ _ j2, j3]⟩
    tight := fun j h1 h2 h3 h4 => by
      by_cases e : j = b
      · subst e
        rw [upd_same, hlow]
        exact t2
      · rw [upd_ne _ _ e] at h4 ⊢
        exact hx.tight j h1 h2 e h4
    vz := fun j h1 h2 h3 h4 => by
      by_cases e : j = b
      · subst e
        rw [upd_same, hlow] at h4
        exact absurd h4 d2
      · rw [upd_ne _ _ e] at h4
        exact hx.vz j h1 h2 e h4 }, t3⟩

theorem pass_end (h : Dij n c k u v p dn L F a t s rk) {p2 : Nat → Nat} (hx : Pass n c k u v p dn F rk p2 0) : Hun n c (k + 1) u v p2 where
  feas := h.feas
  uz r h1 h2 := h.uz r h1 h2
  le j h1 h2 := hx.le j h2 (by omega)
  tight j h1 h2 h3 := hx.tight j h1 h2 (by omega) h3
  inj j j' h1 h2 h3 h4 h5 h6 := hx.inj j j' h2 h4 (by omega) (by omega) h5 h6
  sur r h1 h2 := by
    obtain ⟨j, j1, j2, j3⟩ := hx.sur r h1 h2
    exact ⟨j, by omega, j1, j3⟩
  vz j h1 h2 h3 := hx.vz j h1 h2 (by omega) h3
  bu r h1 h2 := by
    have := h.bu r h1 h2
    have := h.sle
    have e : ((k + 1 : Nat) : Int) * M = k * M + M := by rw [Int.natCast_add, Int.add_mul]; simp
    omega
  bv j h1 h2 := by
    have := h.bv j h1 h2
    have := h.sle
    have e : ((k + 1 : Nat) : Int) * M = k * M + M := by rw [Int.natCast_add, Int.add_mul]; simp
    omega
end
end A
end Go.Proofs.Ytoemhphgnpedmaa
