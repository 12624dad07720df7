/-
  The law Order of layer 44: its plain law. No walk. By an AI agent.
-/
import Derived.Test.YtfjkelngdljikaaLw
namespace Go.Proofs.Ytfjkelngdljikaa
set_option linter.unusedVariables false
set_option linter.unusedSimpArgs false
open Go.RowKit

namespace Q
/-- What is spoken, then what waits. -/
def leftA (a : Qa) : List Ut := (if a.sp = true then [a.cur] else []) ++ a.items
theorem leftA_of (a : Qa) : left (ofQ a) = leftA a := by cases hs : a.sp <;> simp [left, ofQ, leftA, hs]
/-- When the one before ended. -/
def endAt (c : Int) (l : List Int) : Nat → Int
  | 0 => c
  | k + 1 => (l[k]?).getD 0
theorem chain_get {af du : Ut → Int} {time : Int} : ∀ (l : List (Ut × Int × Int)) (now : Int), Chain af du time now l → ∀ k (hk : k < l.length),
    l[k].2.1 = max (endAt now (l.map (·.2.2)) k) (af l[k].1) ∧ l[k].2.2 = l[k].2.1 + du l[k].1 ∧ l[k].2.2 ≤ time := by
  intro l
  induction l with
  | nil => intro now h k hk; exact absurd hk (Nat.not_lt_zero k)
  | cons y l ih =>
    intro now h k hk
    obtain ⟨h1, h2, h3, h4⟩ := h
    cases k with
    | zero => exact ⟨h1, by simp only [List.getElem_cons_zero]; omega, h3⟩
    | succ k =>
      have := ih _ h4 k (by simpa using hk)
      simp only [List.getElem_cons_succ]
      refine ⟨?_, this.2⟩
      rw [this.1]
      cases k with
      | zero => simp [endAt]
      | succ j => simp [endAt]
/-- In order, as early as may be, none is lost. -/
theorem ord_facts {a : Qa} (hc : chk a = 0) (hs : a.Sml) {t : Int} (ht : a.clock ≤ t) :
    (a.adv t).2.map (·.u) ++ leftA (a.adv t).1 = leftA a ∧ ∀ k (hk : k < (a.adv t).2.length), (a.adv t).2[k].co = true ∧ (a.adv t).2[k].en ≤ t ∧
      ((a.sp = true ∧ k = 0) → (a.adv t).2[k].be = a.be ∧ (a.adv t).2[k].en = a.en) ∧
      (¬ (a.sp = true ∧ k = 0) → (a.adv t).2[k].be = max (endAt a.clock ((a.adv t).2.map (·.en)) k) (a.adv t).2[k].u.af ∧ (a.adv t).2[k].en = (a.adv t).2[k].be + dur a.rate (a.adv t).2[k].u) := by
  constructor
  · have h := adv_left (·.af) (dur a.rate) a.clock t (ofQ a)
    rw [← leftA_of, ← leftA_of, ← h]
    unfold Qa.adv
    rw [ofQ_toQ, List.map_map]
    rfl
  · have key : ∀ l : List (Ut × Int × Int), (l.map toSa).map (·.en) = l.map (·.2.2) := fun l => by rw [List.map_map]; rfl
    intro k hk
    unfold Qa.adv at hk ⊢
    simp only [List.getElem_map, key]
    rw [List.length_map] at hk
    cases hsp : a.sp with
    | false =>
      have ho : ofQ a = ⟨none, a.items⟩ := by simp [ofQ, hsp]
      have hch := runI_chain (·.af) (dur a.rate) t a.items a.clock
      simp only [ho, Q.adv] at hk ⊢
      have h := chain_get _ _ hch k hk
      exact ⟨rfl, h.2.2, (fun hh => by cases hh.1), fun _ => ⟨h.1, h.2.1⟩⟩
    | true =>
      have ho : ofQ a = ⟨some (a.cur, a.be, a.en), a.items⟩ := by simp [ofQ, hsp]
      have hch := runI_chain (·.af) (dur a.rate) t a.items a.en
      simp only [ho] at hk ⊢
      by_cases hte : t < a.en
      · simp [Q.adv, hte] at hk
      · simp only [Q.adv, hte, if_false] at hk ⊢
        cases k with
        | zero => exact ⟨rfl, by simp [toSa]; omega, fun _ => ⟨rfl, rfl⟩, fun hh => absurd (by simp) hh⟩
        | succ k =>
          have h := chain_get _ _ hch k (by simpa using hk)
          simp only [List.getElem_cons_succ]
          have e : endAt a.en ((runI (·.af) (dur a.rate) t a.en a.items).2.map (·.2.2)) k = endAt a.clock (((a.cur, a.be, a.en) :: (runI (·.af) (dur a.rate) t a.en a.items).2).map (·.2.2)) (k + 1) := by
            cases k with
            | zero => rfl
            | succ j => rfl
          rw [e] at h
          exact ⟨rfl, h.2.2, (fun hh => by cases hh.2), fun _ => ⟨h.1, h.2.1⟩⟩
theorem ord_facts2 {a X1 : Qa} {X2 : List Sa} {t : Int} (h1 : (a.adv t).1 = X1) (h2 : (a.adv t).2 = X2) (hc : chk a = 0) (hs : a.Sml) (ht : a.clock ≤ t) :
    X2.map (·.u) ++ leftA X1 = leftA a ∧ ∀ k (hk : k < X2.length), X2[k].co = true ∧ X2[k].en ≤ t ∧ ((a.sp = true ∧ k = 0) → X2[k].be = a.be ∧ X2[k].en = a.en) ∧
      (¬ (a.sp = true ∧ k = 0) → X2[k].be = max (endAt a.clock (X2.map (·.en)) k) X2[k].u.af ∧ X2[k].en = X2[k].be + dur a.rate X2[k].u) := by
  subst h1 h2
  exact ord_facts hc hs ht
end Q
end Go.Proofs.Ytfjkelngdljikaa
