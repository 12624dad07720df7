/-
  The plain laws over queues: the rest, in steps, further utterances. No walk. By an AI agent.
-/
import Derived.Test.YtfjkelngdljikaaLq
namespace Go.Proofs.Ytfjkelngdljikaa
set_option linter.unusedVariables false
set_option linter.unusedSimpArgs false
open Go.RowKit

namespace Q
theorem word_nonneg (n : Nat) (r : Int) : 0 ≤ D.word n r := by
  have hl := D.lim_bd r
  unfold D.word
  exact Int.ediv_nonneg (by omega) (by omega)
theorem words_nonneg : ∀ (l : List Nat) (r : Int), 0 ≤ D.words l r
  | [], _ => by simp [D.words]
  | n :: l, r => by
    have h1 := word_nonneg n r
    have h2 := words_nonneg l r
    have e : D.words (n :: l) r = D.word n r + D.words l r := by simp [D.words]
    omega
theorem dur_nonneg (r : Int) (u : Ut) : 0 ≤ dur r u := words_nonneg _ r
/-- Where nothing is cut off, the rest is the end of all. -/
theorem rst2_rest {r : Int} : ∀ (l : List Ut) (now : Int), (∀ u ∈ l, Small u) → now ≤ 2199023255552 → rst2 r now l = min (rest (·.af) (dur r) now l) 2199023255552
  | [], now, _, h => by rw [rst2, rest]; omega
  | u :: l, now, hs, h => by
    have hs' : ∀ v ∈ l, Small v := fun v hv => hs v (List.mem_cons_of_mem _ hv)
    rw [rst2, rest]
    by_cases hc : max now u.af + dur r u ≤ 2199023255552
    · rw [show min (max now u.af + dur r u) 2199023255552 = max now u.af + dur r u by omega]
      exact rst2_rest l _ hs' hc
    · have hg := rest_ge (fun u : Ut => u.af) (dur r) (dur_nonneg r) l (max now u.af + dur r u)
      rw [show min (max now u.af + dur r u) 2199023255552 = 2199023255552 by omega, rst2_top l hs']
      omega
theorem from_ofQ (a : Qa) : restS (·.af) (dur a.rate) a.clock (ofQ a) = rest (·.af) (dur a.rate) (from_ a) a.items := by
  cases hs : a.sp <;> simp [restS, ofQ, from_, hs]
theorem fin_eq {a : Qa} (hp : Proper a) (hs : a.Sml) : fin a = min (restS (·.af) (dur a.rate) a.clock (ofQ a)) 2199023255552 := by
  rw [from_ofQ]
  exact rst2_rest _ _ hs.2.2 hp.from_.2
/-- All that is spoken and waits. -/
def cnt (a : Qa) : Nat := a.items.length + (if a.sp = true then 1 else 0)
theorem left_ofQ (a : Qa) : (left (ofQ a)).length = cnt a := by
  cases hs : a.sp <;> simp [left, ofQ, hs, cnt]
theorem fin_facts {a : Qa} (hc : chk a = 0) (hs : a.Sml) (ht : fin a ≤ 1099511627776) :
    a.clock ≤ fin a ∧ (a.adv (fin a)).1 = ⟨fin a, a.rate, false, zero, 0, 0, []⟩ ∧ (a.adv (fin a)).2.length = cnt a ∧ (cnt a = 0 → fin a = a.clock) ∧
      (cnt a ≠ 0 → a.clock ≤ fin a - 1 ∧ ((a.adv (fin a - 1)).1.sp = true ∨ (a.adv (fin a - 1)).1.items ≠ [])) := by
  have hp := chk_proper hc
  have hf := fin_eq hp hs
  have he : fin a = restS (·.af) (dur a.rate) a.clock (ofQ a) := by omega
  have hR := hp.right
  have hge : a.clock ≤ restS (·.af) (dur a.rate) a.clock (ofQ a) ∧ (cnt a ≠ 0 → a.clock < restS (·.af) (dur a.rate) a.clock (ofQ a)) ∧ (cnt a = 0 → restS (·.af) (dur a.rate) a.clock (ofQ a) = a.clock) := by
    rw [from_ofQ]
    have hg := rest_ge (fun u : Ut => u.af) (dur a.rate) (dur_nonneg a.rate) a.items (from_ a)
    cases hsp : a.sp with
    | true =>
      have h1 := hp.sp hsp
      have h2 : from_ a = a.en := by simp [from_, hsp]
      exact ⟨by omega, fun _ => by omega, fun h => by simp [cnt, hsp] at h⟩
    | false =>
      have h2 : from_ a = a.clock := by simp [from_, hsp]
      refine ⟨by omega, fun h => ?_, fun h => ?_⟩
      · cases hi : a.items with
        | nil => simp [cnt, hsp, hi] at h
        | cons u l =>
          have h3 := soon_right (hp.st hsp).2 u l hi
          have h4 := rest_ge (fun u : Ut => u.af) (dur a.rate) (dur_nonneg a.rate) l (max (from_ a) u.af + dur a.rate u)
          have h5 := dur_nonneg a.rate u
          rw [rest]
          omega
      · have hi : a.items = [] := List.eq_nil_of_length_eq_zero (by simp [cnt, hsp] at h; simp [h])
        rw [hi, rest, h2]
  have hA := adv_rest (·.af) (dur a.rate) (dur_nonneg a.rate) (ofQ a) hR (clock := a.clock) (time := fin a) (by omega)
  obtain ⟨h1, h2⟩ := hA.1 (by omega)
  refine ⟨by omega, ?_, ?_, fun h => by have := hge.2.2 h; omega, fun h => ?_⟩
  · unfold Qa.adv; rw [h1]; rfl
  · unfold Qa.adv; rw [List.length_map, h2, left_ofQ]
  · have h3 := hge.2.1 h
    refine ⟨by omega, ?_⟩
    have hB := (adv_rest (·.af) (dur a.rate) (dur_nonneg a.rate) (ofQ a) hR (clock := a.clock) (time := fin a - 1) (by omega)).2 (by omega)
    unfold Qa.adv
    generalize (Q.adv (·.af) (dur a.rate) a.clock (ofQ a) (fin a - 1)).1 = x at *
    obtain ⟨sp, items⟩ := x
    cases sp with
    | some y => exact .inl rfl
    | none => exact .inr (fun h => hB (by simpa [left, toQ] using h))
theorem fin_empty {t r : Int} (h : t ≤ 2199023255552) : fin ⟨t, r, false, zero, 0, 0, []⟩ = t := rfl
/-- In two steps. -/
theorem qadv_steps {a : Qa} {s t : Int} (h1 : a.clock ≤ s) (h2 : s ≤ t) : a.adv t = (((a.adv s).1.adv t).1, (a.adv s).2 ++ ((a.adv s).1.adv t).2) := by
  have h := adv_steps (·.af) (dur a.rate) h1 h2 (ofQ a)
  unfold Qa.adv
  rw [toQ_rate, toQ_clock, ofQ_toQ, h]
  simp
/-- Advance at a time that is not refused. -/
theorem advR_ok {a : Qa} {time : Int} (h0 : 0 ≤ a.clock) (h1 : a.clock ≤ time) (h2 : time ≤ 1099511627776) : a.advR time = ((a.adv time).1, (a.adv time).2, 0) := by
  rw [Qa.advR, if_neg (by omega), if_neg (by omega)]
/-- Further utterances do not change what came. -/
theorem rep_more {a : Qa} {us : List Ut} (hc : chk a = 0) (hs : a.Sml) (h : prs us = 0) (m : List Ut) (hm : us = a.items ++ m) {t : Int} (ht : a.clock ≤ t) :
    List.IsPrefix (a.adv t).2 ((Qa.settled ⟨a.clock, a.rate, a.sp, a.cur, a.be, a.en, us⟩).adv t).2 ∧ restS (·.af) (dur a.rate) a.clock (ofQ a) ≤ restS (·.af) (dur a.rate) a.clock (ofQ (Qa.settled ⟨a.clock, a.rate, a.sp, a.cur, a.be, a.en, us⟩)) := by
  have hset : ofQ (Qa.settled ⟨a.clock, a.rate, a.sp, a.cur, a.be, a.en, us⟩) = settle (·.af) (dur a.rate) a.clock (ofQ ⟨a.clock, a.rate, a.sp, a.cur, a.be, a.en, us⟩) ∧ (Qa.settled ⟨a.clock, a.rate, a.sp, a.cur, a.be, a.en, us⟩).rate = a.rate ∧ (Qa.settled ⟨a.clock, a.rate, a.sp, a.cur, a.be, a.en, us⟩).clock = a.clock := by
    unfold Qa.settled
    cases hsp : a.sp with
    | true => simp [ofQ, settle]
    | false =>
      cases us with
      | nil => simp [ofQ, settle, soon]
      | cons u l =>
        by_cases hu : u.af ≤ a.clock
        · simp [ofQ, settle, soon, hu, Qa.begin]
        · simp [ofQ, settle, soon, hu]
  obtain ⟨e1, e2, e3⟩ := hset
  constructor
  · unfold Qa.adv
    rw [e1, e2, e3, settle_adv (·.af) (dur a.rate) ht]
    simp only [ofQ]
    subst hm
    cases hsp : a.sp with
    | true =>
      simp only [if_true, Q.adv]
      split
      · exact List.prefix_refl _
      · simp only [List.map_cons]
        exact (List.cons_prefix_cons).2 ⟨rfl, (runI_prefix (·.af) (dur a.rate) t m a.items _).map _⟩
    | false =>
      simp only [Q.adv]
      exact (runI_prefix (·.af) (dur a.rate) t m a.items _).map _
  · rw [e1, settle_rest]
    subst hm
    have key : ∀ now, rest (·.af) (dur a.rate) now a.items ≤ rest (·.af) (dur a.rate) now (a.items ++ m) := fun now => by
      rw [rest_append]
      exact rest_ge _ _ (dur_nonneg a.rate) m _
    cases hsp : a.sp <;> simp only [restS, ofQ, hsp] <;> exact key _
end Q
end Go.Proofs.Ytfjkelngdljikaa
