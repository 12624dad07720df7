/-
  The plain mathematics of layer 29 (assignments): numbers that prove an assignment optimal, one more row. By an AI agent.
-/
namespace Go.Proofs.Ytoemhphgnpedmaa
namespace A

/-- A function turned at one place. -/
def upd {α : Type} (f : Nat → α) (i : Nat) (x : α) : Nat → α := fun j => if j = i then x else f j
@[simp] theorem upd_same {α : Type} (f : Nat → α) (i : Nat) (x : α) : upd f i x i = x := by simp [upd]
theorem upd_ne {α : Type} (f : Nat → α) {i j : Nat} (x : α) (h : j ≠ i) : upd f i x j = f j := by simp [upd, h]

/-! Pigeons. -/
theorem nodup_len {l m : List Nat} (hn : l.Nodup) (h : ∀ x ∈ l, x ∈ m) : l.length ≤ m.length := by
  induction l generalizing m with
  | nil => simp
  | cons x l ih =>
    have hx := h x (by simp)
    rw [List.nodup_cons] at hn
    have h2 := ih (m := m.erase x) hn.2 (fun y hy => (List.mem_erase_of_ne (by rintro rfl; exact hn.1 hy)).2 (h y (by simp [hy])))
    rw [List.length_erase_of_mem hx] at h2
    have : 0 < m.length := List.length_pos_of_mem hx
    simp only [List.length_cons]
    omega
theorem nodup_map {l : List Nat} (f : Nat → Nat) (hn : l.Nodup) (h : ∀ x ∈ l, ∀ y ∈ l, f x = f y → x = y) : (l.map f).Nodup := by
  induction l with
  | nil => simp
  | cons x l ih =>
    rw [List.nodup_cons] at hn
    rw [List.map_cons, List.nodup_cons]
    refine ⟨fun hm => ?_, ih hn.2 (fun a ha b hb => h a (by simp [ha]) b (by simp [hb]))⟩
    obtain ⟨y, hy, e⟩ := List.mem_map.1 hm
    have := h y (by simp [hy]) x (by simp) e
    subst this
    exact hn.1 hy
/-- An injective function from a list into itself misses nothing. -/
theorem onto {l : List Nat} (f : Nat → Nat) (hn : l.Nodup) (h1 : ∀ x ∈ l, f x ∈ l) (h2 : ∀ x ∈ l, ∀ y ∈ l, f x = f y → x = y) {y : Nat} (hy : y ∈ l) : ∃ x ∈ l, f x = y := by
  by_cases h : y ∈ l.map f
  · obtain ⟨x, hx, e⟩ := List.mem_map.1 h
    exact ⟨x, hx, e⟩
  · exfalso
    have h3 := nodup_len (nodup_map f hn h2) (m := l.erase y) (fun z hz => by
      obtain ⟨x, hx, rfl⟩ := List.mem_map.1 hz
      exact (List.mem_erase_of_ne (by intro e; exact h (by rw [← e]; exact hz))).2 (h1 x hx))
    rw [List.length_map, List.length_erase_of_mem hy] at h3
    have : 0 < l.length := List.length_pos_of_mem hy
    omega

/-- The numbers 1 .. n. -/
def nums (n : Nat) : List Nat := List.range' 1 n
theorem mem_nums {n x : Nat} : x ∈ nums n ↔ 1 ≤ x ∧ x ≤ n := by
  unfold nums
  rw [List.mem_range'_1]
  omega
theorem nodup_nums (n : Nat) : (nums n).Nodup := List.nodup_range'
theorem len_nums (n : Nat) : (nums n).length = n := List.length_range'

/-- The greatest cost. -/
def M : Int := 1000000
def never : Int := 1099511627776

section
variable (n : Nat) (c : Nat → Nat → Int)

/-- The numbers and the owners of the columns when k rows are assigned. -/
structure Hun (k : Nat) (u v : Nat → Int) (p : Nat → Nat) : Prop where
  feas : ∀ r j, 1 ≤ r → r ≤ n → 1 ≤ j → j ≤ n → u r + v j ≤ c r j
  uz : ∀ r, k < r → r ≤ n → u r = 0
  le : ∀ j, 1 ≤ j → j ≤ n → p j ≤ k
  tight : ∀ j, 1 ≤ j → j ≤ n → p j ≠ 0 → u (p j) + v j = c (p j) j
  inj : ∀ j j', 1 ≤ j → j ≤ n → 1 ≤ j' → j' ≤ n → p j ≠ 0 → p j = p j' → j = j'
  sur : ∀ r, 1 ≤ r → r ≤ k → ∃ j, 1 ≤ j ∧ j ≤ n ∧ p j = r
  vz : ∀ j, 1 ≤ j → j ≤ n → p j = 0 → v j = 0
  bu : ∀ r, 1 ≤ r → r ≤ n → 0 ≤ u r ∧ u r ≤ k * M
  bv : ∀ j, 1 ≤ j → j ≤ n → -(k * M) ≤ v j ∧ v j ≤ 0

variable {n c}

theorem hun_start (hc : ∀ r j, 1 ≤ r → r ≤ n → 1 ≤ j → j ≤ n → 0 ≤ c r j ∧ c r j ≤ M) : Hun n c 0 (fun _ => 0) (fun _ => 0) (fun _ => 0) where
  feas r j h1 h2 h3 h4 := by have := hc r j h1 h2 h3 h4; omega
  uz _ _ _ := rfl
  le _ _ _ := Nat.le_refl _
  tight _ _ _ h := absurd rfl h
  inj _ _ _ _ _ _ h := absurd rfl h
  sur r h1 h2 := by omega
  vz _ _ _ _ := rfl
  bu _ _ _ := by simp
  bv _ _ _ := by simp

/-- While not all rows are assigned a column is free. -/
theorem hun_free {k : Nat} {u v : Nat → Int} {p : Nat → Nat} (h : Hun n c k u v p) (hk : k < n) : ∃ f, 1 ≤ f ∧ f ≤ n ∧ p f = 0 := by
  by_cases hx : ∃ f, 1 ≤ f ∧ f ≤ n ∧ p f = 0
  · exact hx
  · exfalso
    have h1 := nodup_len (l := (nums n).map p) (m := nums k) (nodup_map p (nodup_nums n) (fun x hx' y hy e => by
      rw [mem_nums] at hx' hy
      exact h.inj x y hx'.1 hx'.2 hy.1 hy.2 (fun e0 => hx ⟨x, hx'.1, hx'.2, e0⟩) e)) (fun z hz => by
      obtain ⟨x, hx', rfl⟩ := List.mem_map.1 hz
      rw [mem_nums] at hx'
      have := h.le x hx'.1 hx'.2
      have : p x ≠ 0 := fun e0 => hx ⟨x, hx'.1, hx'.2, e0⟩
      exact mem_nums.2 ⟨by omega, by omega⟩)
    rw [List.length_map, len_nums, len_nums] at h1
    omega

variable (n c)

/-- Along a shortest path: what is done (dn), the least slack of each other column (L), and whence (F); 'a' is where it stands, t how many are done, s what the numbers have moved. -/
structure Dij (k : Nat) (u v : Nat → Int) (p : Nat → Nat) (dn : Nat → Bool) (L : Nat → Int) (F : Nat → Nat) (a t : Nat) (s : Int) (rk : Nat → Nat) : Prop where
  feas : ∀ r j, 1 ≤ r → r ≤ n → 1 ≤ j → j ≤ n → u r + v j ≤ c r j
  uz : ∀ r, k + 1 < r → r ≤ n → u r = 0
  p0 : p 0 = k + 1
  le : ∀ j, 1 ≤ j → j ≤ n → p j ≤ k
  tight : ∀ j, 1 ≤ j → j ≤ n → p j ≠ 0 → u (p j) + v j = c (p j) j
  inj : ∀ j j', 1 ≤ j → j ≤ n → 1 ≤ j' → j' ≤ n → p j ≠ 0 → p j = p j' → j = j'
  sur : ∀ r, 1 ≤ r → r ≤ k → ∃ j, 1 ≤ j ∧ j ≤ n ∧ p j = r
  vz : ∀ j, 1 ≤ j → j ≤ n → p j = 0 → v j = 0
  bu : ∀ r, 1 ≤ r → r ≤ n → 0 ≤ u r ∧ u r ≤ k * M + s
  bv : ∀ j, 1 ≤ j → j ≤ n → -(k * M) - s ≤ v j ∧ v j ≤ 0
  dnle : ∀ j, dn j = true → j ≤ n ∧ p j ≠ 0 ∧ rk j < t
  ale : a ≤ n ∧ dn a = false ∧ rk a = t
  sle : 0 ≤ s ∧ s ≤ M
  start : t = 0 → a = 0 ∧ (∀ j, dn j = false) ∧ s = 0 ∧ u (k + 1) = 0 ∧ ∀ j, 1 ≤ j → j ≤ n → L j = never
  later : 0 < t → a ≠ 0 ∧ dn 0 = true
  tree : ∀ j, 1 ≤ j → (dn j = true ∨ j = a) → dn (F j) = true ∧ u (p (F j)) + v j = c (p (F j)) j ∧ rk (F j) < rk j
  lo : 0 < t → ∀ j, 1 ≤ j → j ≤ n → dn j = false → 0 ≤ L j ∧ (∀ d, dn d = true → L j ≤ c (p d) j - u (p d) - v j) ∧ dn (F j) = true ∧ L j = c (p (F j)) j - u (p (F j)) - v j
  lf : 0 < t → ∀ f, 1 ≤ f → f ≤ n → p f = 0 → L f + s ≤ M

variable {n c}

theorem dij_start {k : Nat} {u v : Nat → Int} {p : Nat → Nat} (h : Hun n c k u v p) (hk : k < n) (L : Nat → Int) (F : Nat → Nat) (hL : ∀ j, 1 ≤ j → j ≤ n → L j = never) :
    Dij n c k u v (upd p 0 (k + 1)) (fun _ => false) L F 0 0 0 (fun _ => 0) := by
  have e : ∀ j, 1 ≤ j → upd p 0 (k + 1) j = p j := fun j hj => upd_ne p _ (by omega)
  exact {
    feas := h.feas
    uz := fun r h1 h2 => h.uz r (by omega) h2
    p0 := upd_same _ _ _
    le := fun j h1 h2 => by rw [e j h1]; exact h.le j h1 h2
    tight := fun j h1 h2 => by rw [e j h1]; exact h.tight j h1 h2
    inj := fun j j' h1 h2 h3 h4 => by rw [e j h1, e j' h3]; exact h.inj j j' h1 h2 h3 h4
    sur := fun r h1 h2 => by
      obtain ⟨j, a1, a2, a3⟩ := h.sur r h1 h2
      exact ⟨j, a1, a2, by rw [e j a1]; exact a3⟩
    vz := fun j h1 h2 => by rw [e j h1]; exact h.vz j h1 h2
    bu := fun r h1 h2 => by have := h.bu r h1 h2; omega
    bv := fun j h1 h2 => by have := h.bv j h1 h2; omega
    dnle := fun j hj => by cases hj
    ale := ⟨Nat.zero_le _, rfl, rfl⟩
    sle := by unfold M; omega
    start := fun _ => ⟨rfl, fun _ => rfl, rfl, h.uz (k + 1) (by omega) (by omega), hL⟩
    later := fun h0 => by omega
    tree := fun j h1 h2 => by
      rcases h2 with h2 | h2
      · cases h2
      · omega
    lo := fun h0 => by omega
    lf := fun h0 => by omega }

/-- What the scan of the columns leaves. -/
structure Scan (u v : Nat → Int) (p : Nat → Nat) (dn' : Nat → Bool) (a : Nat) (L L' : Nat → Int) (F F' : Nat → Nat) (m : Nat) (nx : Nat) (de : Int) : Prop where
  upto : ∀ j, 1 ≤ j → j < m → dn' j = false → L' j = min (L j) (c (p a) j - u (p a) - v j) ∧ F' j = (if c (p a) j - u (p a) - v j < L j then a else F j)
  keep : ∀ j, (j < 1 ∨ m ≤ j ∨ dn' j = true) → L' j = L j ∧ F' j = F j
  none_ : nx = 0 → de = never ∧ ∀ j, 1 ≤ j → j < m → dn' j = false → never ≤ L' j
  some_ : nx ≠ 0 → nx < m ∧ dn' nx = false ∧ de = L' nx ∧ de < never ∧ ∀ j, 1 ≤ j → j < m → dn' j = false → de ≤ L' j

theorem scan_start (u v : Nat → Int) (p : Nat → Nat) (dn' : Nat → Bool) (a : Nat) (L : Nat → Int) (F : Nat → Nat) : Scan (c := c) u v p dn' a L L F F 1 0 never where
  upto j h1 h2 := by omega
  keep _ _ := ⟨rfl, rfl⟩
  none_ _ := ⟨rfl, fun j h1 h2 => by omega⟩
  some_ h := absurd rfl h

theorem scan_skip {u v : Nat → Int} {p : Nat → Nat} {dn' : Nat → Bool} {a : Nat} {L L' : Nat → Int} {F F' : Nat → Nat} {m nx : Nat} {de : Int} (h : Scan (c := c) u v p dn' a L L' F F' m nx de) (hm : dn' m = true) :
    Scan (c := c) u v p dn' a L L' F F' (m + 1) nx de where
  upto j h1 h2 h3 := h.upto j h1 (by
    by_cases e : j = m
    · subst e; rw [hm] at h3; cases h3
    · omega) h3
  keep j hj := h.keep j (by rcases hj with hj | hj | hj; exact .inl hj; exact .inr (.inl (by omega)); exact .inr (.inr hj))
  none_ h0 := ⟨(h.none_ h0).1, fun j h1 h2 h3 => (h.none_ h0).2 j h1 (by
    by_cases e : j = m
    · subst e; rw [hm] at h3; cases h3
    · omega) h3⟩
  some_ h0 := by
    obtain ⟨a1, a2, a3, a4, a5⟩ := h.some_ h0
    refine ⟨by omega, a2, a3, a4, fun j h1 h2 h3 => a5 j h1 ?_ h3⟩
    by_cases e : j = m
    · subst e; rw [hm] at h3; cases h3
    · omega

/-- One column looked at: L and F may be turned there. -/
theorem scan_look {u v : Nat → Int} {p : Nat → Nat} {dn' : Nat → Bool} {a : Nat} {L L' : Nat → Int} {F F' : Nat → Nat} {m nx : Nat} {de : Int} (h : Scan (c := c) u v p dn' a L L' F F' m nx de) (hm1 : 1 ≤ m) (hm : dn' m = false)
    {L2 : Nat → Int} {F2 : Nat → Nat} (hL : L2 = if c (p a) m - u (p a) - v m < L' m then upd L' m (c (p a) m - u (p a) - v m) else L') (hF : F2 = if c (p a) m - u (p a) - v m < L' m then upd F' m a else F')
    {nx2 : Nat} {de2 : Int} (hn : nx2 = if L2 m < de then m else nx) (hd : de2 = if L2 m < de then L2 m else de) :
    Scan (c := c) u v p dn' a L L2 F F2 (m + 1) nx2 de2 := by
  have k := h.keep m (by omega)
  have eL : ∀ j, j ≠ m → L2 j = L' j := fun j hj => by
    rw [hL]; split
    · exact upd_ne _ _ hj
    · rfl
  have eF : ∀ j, j ≠ m → F2 j = F' j := fun j hj => by
    rw [hF]; split
    · exact upd_ne _ _ hj
    · rfl
  have mL : L2 m = min (L m) (c (p a) m - u (p a) - v m) := by
    rw [hL]; split
    · rename_i hh; rw [upd_same]; rw [k.1] at hh; omega
    · rename_i hh; rw [k.1]; rw [k.1] at hh; omega
  have mF : F2 m = if c (p a) m - u (p a) - v m < L m then a else F m := by
    rw [hF, k.1]; split
    · rw [upd_same]
    · exact k.2
  have lt_or : ∀ j, j < m + 1 → j ≠ m → j < m := fun j h1 h2 => by omega
  refine ⟨?_, ?_, ?_, ?_⟩
  · intro j h1 h2 h3
    by_cases e : j = m
    · subst e; exact ⟨mL, mF⟩
    · rw [eL j e, eF j e]; exact h.upto j h1 (lt_or j h2 e) h3
  · intro j hj
    have e : j ≠ m := by
      rintro rfl
      rcases hj with hj | hj | hj
      · omega
      · omega
      · rw [hm] at hj; cases hj
    rw [eL j e, eF j e]
    exact h.keep j (by rcases hj with hj | hj | hj; exact .inl hj; exact .inr (.inl (by omega)); exact .inr (.inr hj))
  · intro h0
    rw [hn] at h0
    split at h0
    · omega
    · rename_i hh
      obtain ⟨d1, d2⟩ := h.none_ h0
      rw [hd, if_neg hh]
      refine ⟨d1, fun j h1 h2 h3 => ?_⟩
      by_cases e : j = m
      · subst e; omega
      · rw [eL j e]; exact d2 j h1 (lt_or j h2 e) h3
  · intro h0
    by_cases hh : L2 m < de
    · rw [if_pos hh] at hn hd
      rw [hn, hd]
      refine ⟨by omega, hm, rfl, ?_, fun j h1 h2 h3 => ?_⟩
      · by_cases e0 : nx = 0
        · have := (h.none_ e0).1; omega
        · have := (h.some_ e0).2.2.2.1; omega
      · by_cases e : j = m
        · subst e; omega
        · rw [eL j e]
          by_cases e0 : nx = 0
          · have := (h.none_ e0).2 j h1 (lt_or j h2 e) h3
            have := (h.none_ e0).1
            omega
          · have := (h.some_ e0).2.2.2.2 j h1 (lt_or j h2 e) h3
            omega
    · rw [if_neg hh] at hn hd
      rw [hn] at h0 ⊢
      rw [hd]
      obtain ⟨a1, a2, a3, a4, a5⟩ := h.some_ h0
      refine ⟨by omega, a2, by rw [eL nx (by omega)]; exact a3, a4, fun j h1 h2 h3 => ?_⟩
      by_cases e : j = m
      · subst e; omega
      · rw [eL j e]; exact a5 j h1 (lt_or j h2 e) h3
end
end A
end Go.Proofs.Ytoemhphgnpedmaa
