/-
  The plain mathematics of layer 22 (words and fields): glyphs and their kinds. By an AI agent.
-/
import Derived.Laws.Strings
namespace Go.Proofs.Ythfpiomooomhoaa
namespace S

/-- A glyph. -/
structure G where
  t : ByteArray
  wd : Bool
  st : Int

instance : Inhabited G := ⟨⟨ByteArray.empty, false, 0⟩⟩

def letter (n : Nat) : Bool := decide (128 ≤ n) || n == 95 || (decide (48 ≤ n) && decide (n ≤ 57)) || (decide (65 ≤ n) && decide (n ≤ 90)) || (decide (97 ≤ n) && decide (n ≤ 122))

/-- The kind of a text: 0 blank, 1 letter, 2 sign. -/
def kind (t : ByteArray) : Nat :=
  match t.data.toList with
  | [] => 0
  | c :: l => if c = 32 ∧ l = [] then 0 else if letter c.toNat then 1 else 2

/-- The cases that the code parts into. -/
def Kc (t : ByteArray) : Prop :=
  (t.toList.isEmpty = true ∧ t.toList = [] ∧ kind t = 0) ∨
  (t.toList.isEmpty = false ∧ ¬ t.toList = [] ∧ (t.toList == [32]) = true ∧ ∃ _ : 0 < t.size, kind t = 0) ∨
  (t.toList.isEmpty = false ∧ ¬ t.toList = [] ∧ (t.toList == [32]) = false ∧ ∃ _ : 0 < t.size, 128 ≤ (t[0].toNat : Int) ∧ kind t = 1) ∨
  (t.toList.isEmpty = false ∧ ¬ t.toList = [] ∧ (t.toList == [32]) = false ∧ ∃ _ : 0 < t.size, (t[0].toNat : Int) = 95 ∧ kind t = 1) ∨
  (t.toList.isEmpty = false ∧ ¬ t.toList = [] ∧ (t.toList == [32]) = false ∧ ∃ _ : 0 < t.size, 48 ≤ (t[0].toNat : Int) ∧ (t[0].toNat : Int) ≤ 57 ∧ kind t = 1) ∨
  (t.toList.isEmpty = false ∧ ¬ t.toList = [] ∧ (t.toList == [32]) = false ∧ ∃ _ : 0 < t.size, 65 ≤ (t[0].toNat : Int) ∧ (t[0].toNat : Int) ≤ 90 ∧ kind t = 1) ∨
  (t.toList.isEmpty = false ∧ ¬ t.toList = [] ∧ (t.toList == [32]) = false ∧ ∃ _ : 0 < t.size, 97 ≤ (t[0].toNat : Int) ∧ (t[0].toNat : Int) ≤ 122 ∧ kind t = 1) ∨
  (t.toList.isEmpty = false ∧ ¬ t.toList = [] ∧ (t.toList == [32]) = false ∧ ∃ _ : 0 < t.size, (t[0].toNat : Int) < 48 ∧ kind t = 2) ∨
  (t.toList.isEmpty = false ∧ ¬ t.toList = [] ∧ (t.toList == [32]) = false ∧ ∃ _ : 0 < t.size, 57 < (t[0].toNat : Int) ∧ (t[0].toNat : Int) < 65 ∧ kind t = 2) ∨
  (t.toList.isEmpty = false ∧ ¬ t.toList = [] ∧ (t.toList == [32]) = false ∧ ∃ _ : 0 < t.size, 90 < (t[0].toNat : Int) ∧ (t[0].toNat : Int) < 95 ∧ kind t = 2) ∨
  (t.toList.isEmpty = false ∧ ¬ t.toList = [] ∧ (t.toList == [32]) = false ∧ ∃ _ : 0 < t.size, 95 < (t[0].toNat : Int) ∧ (t[0].toNat : Int) < 97 ∧ kind t = 2) ∨
  (t.toList.isEmpty = false ∧ ¬ t.toList = [] ∧ (t.toList == [32]) = false ∧ ∃ _ : 0 < t.size, 122 < (t[0].toNat : Int) ∧ (t[0].toNat : Int) < 128 ∧ kind t = 2)

theorem kc (t : ByteArray) : Kc t := by
  have e : t.toList = t.data.toList := ByteArray.toList_eq t
  cases hl : t.data.toList with
  | nil => exact .inl ⟨(by rw [e, hl]; rfl), (by rw [e, hl]), (by unfold kind; rw [hl])⟩
  | cons c l =>
    have h : t.toList.isEmpty = false := by rw [e, hl]; rfl
    have h0 : ¬ t.toList = [] := by rw [e, hl]; simp
    have hs : 0 < t.size := by
      have : t.size = t.data.toList.length := by simp
      rw [this, hl]; simp
    have hc : t[0] = c := by
      have h2 : t[0] = t.data.toList[0]'(by rw [hl]; simp) := rfl
      rw [h2]
      simp only [hl, List.getElem_cons_zero]
    by_cases hb : c = 32 ∧ l = []
    · exact .inr (.inl ⟨h, h0, (by rw [e, hl, hb.1, hb.2]; rfl), hs, (by unfold kind; rw [hl]; simp [hb])⟩)
    · have h1 : (t.toList == [32]) = false := by
        rw [e, hl, beq_eq_false_iff_ne]
        intro hh
        injection hh with a b
        exact hb ⟨a, b⟩
      have hk : kind t = if letter c.toNat then 1 else 2 := by unfold kind; rw [hl]; simp only [hb, if_false]
      have hn : ∀ b, letter c.toNat = b → kind t = if b then 1 else 2 := fun b hb => by rw [hk, hb]
      by_cases a1 : 128 ≤ c.toNat
      · exact .inr (.inr (.inl ⟨h, h0, h1, hs, (by rw [hc]; omega), (hn true (by simp [letter, a1]))⟩))
      by_cases a2 : c.toNat = 95
      · exact .inr (.inr (.inr (.inl ⟨h, h0, h1, hs, (by rw [hc]; omega), (hn true (by simp [letter, a2]))⟩)))
      by_cases a3 : 48 ≤ c.toNat ∧ c.toNat ≤ 57
      · exact .inr (.inr (.inr (.inr (.inl ⟨h, h0, h1, hs, (by rw [hc]; omega), (by rw [hc]; omega), (hn true (by simp [letter, a3]))⟩))))
      by_cases a4 : 65 ≤ c.toNat ∧ c.toNat ≤ 90
      · exact .inr (.inr (.inr (.inr (.inr (.inl ⟨h, h0, h1, hs, (by rw [hc]; omega), (by rw [hc]; omega), (hn true (by simp [letter, a4]))⟩)))))
      by_cases a5 : 97 ≤ c.toNat ∧ c.toNat ≤ 122
      · exact .inr (.inr (.inr (.inr (.inr (.inr (.inl ⟨h, h0, h1, hs, (by rw [hc]; omega), (by rw [hc]; omega), (hn true (by simp [letter, a5]))⟩))))))
      have hf : letter c.toNat = false := by
        simp only [letter, Bool.or_eq_false_iff, Bool.and_eq_false_iff, decide_eq_false_iff_not, beq_eq_false_iff_ne]
        omega
      by_cases b1 : c.toNat < 48
      · exact .inr (.inr (.inr (.inr (.inr (.inr (.inr (.inl ⟨h, h0, h1, hs, (by rw [hc]; omega), (hn false hf)⟩)))))))
      by_cases b2 : c.toNat < 65
      · exact .inr (.inr (.inr (.inr (.inr (.inr (.inr (.inr (.inl ⟨h, h0, h1, hs, (by rw [hc]; omega), (by rw [hc]; omega), (hn false hf)⟩))))))))
      by_cases b3 : c.toNat < 95
      · exact .inr (.inr (.inr (.inr (.inr (.inr (.inr (.inr (.inr (.inl ⟨h, h0, h1, hs, (by rw [hc]; omega), (by rw [hc]; omega), (hn false hf)⟩)))))))))
      by_cases b4 : c.toNat < 97
      · exact .inr (.inr (.inr (.inr (.inr (.inr (.inr (.inr (.inr (.inr (.inl ⟨h, h0, h1, hs, (by rw [hc]; omega), (by rw [hc]; omega), (hn false hf)⟩))))))))))
      · exact .inr (.inr (.inr (.inr (.inr (.inr (.inr (.inr (.inr (.inr (.inr ⟨h, h0, h1, hs, (by rw [hc]; omega), (by rw [hc]; omega), (hn false hf)⟩))))))))))
end S
end Go.Proofs.Ythfpiomooomhoaa
