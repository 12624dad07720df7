/-
  What settles is proper; what Replace and Interrupt answer. No walk. By an AI agent.
-/
import Derived.Test.YtfjkelngdljikaaLh
namespace Go.Proofs.Ytfjkelngdljikaa
set_option linter.unusedVariables false
set_option linter.unusedSimpArgs false
open Go.RowKit

namespace Q
theorem words_pos : ∀ (l : List Nat) (r : Int), l ≠ [] → (∀ n ∈ l, n ≤ 100) → 0 < D.words l r
  | [], _, h, _ => absurd rfl h
  | n :: l, r, _, hl => by
    have h1 := D.word_bd n r (hl n (by simp))
    have h2 := D.words_bd l r (fun m hm => hl m (List.mem_cons_of_mem _ hm))
    have e : D.words (n :: l) r = D.word n r + D.words l r := by simp [D.words]
    omega
theorem dur_pos {u : Ut} (hp : pr u = 0) (hs : Small u) (r : Int) : 0 < dur r u := by
  refine words_pos _ r (fun h => ?_) (fun n hn => ?_)
  · have h0 : u.words.length = 0 := by have := congrArg List.length h; simpa using this
    unfold pr at hp
    rw [if_pos h0] at hp
    cases hp
  · obtain ⟨s, hs', rfl⟩ := List.mem_map.1 hn
    exact Nat.le_trans (hs.2.2.1 s hs') (by decide)
theorem settled_proper {a : Qa} (ck : 0 ≤ a.clock ∧ a.clock ≤ 1099511627776) (rt : 25 ≤ a.rate ∧ a.rate ≤ 400) (hi : prs a.items = 0) (hs : a.Sml)
    (sp : a.sp = true → pr a.cur = 0 ∧ a.cur.af ≤ a.be ∧ a.be ≤ a.clock ∧ a.clock < a.en ∧ a.en ≤ 2199023255552) (cl : a.Clean) : Proper a.settled := by
  unfold Qa.settled
  by_cases h : a.sp = false ∧ soon a.clock a.items = true
  · rw [if_pos h]
    obtain ⟨ck_, rt_, sp_, cu_, be_, en_, items⟩ := a
    cases items with
    | nil => exact absurd h.2 (by simp [soon])
    | cons u l =>
      have hu : pr u = 0 := prs_mem hi (by simp)
      have su := hs.2.2 u (by simp)
      have dp := dur_pos hu su rt_
      have db := Small.dur su rt_
      have haf : u.af ≤ ck_ := by simpa [soon] using h.2
      simp only at ck
      refine ⟨ck, rt, fun _ => ⟨hu, haf, Int.le_refl _, ?_, ?_⟩, (fun e => by cases e), prs_of fun v hv => prs_mem hi (List.mem_cons_of_mem _ hv)⟩
      · show ck_ < ck_ + dur rt_ u; omega
      · show ck_ + dur rt_ u ≤ _; omega
  · rw [if_neg h]
    exact ⟨ck, rt, sp, fun e => ⟨cl e, by cases hh : soon a.clock a.items; rfl; exact absurd ⟨e, hh⟩ h⟩, hi⟩
theorem rep_facts {a : Qa} {us : List Ut} (hc : chk a = 0) (hs : a.Sml) (hl : us.length ≤ 16) (hu : ∀ u ∈ us, Small u) :
    (rep a us).1.Sml ∧ (((rep a us).2 = 0 ∧ chk (rep a us).1 = 0 ∧ prs us = 0 ∧ (rep a us).1 = Qa.settled ⟨a.clock, a.rate, a.sp, a.cur, a.be, a.en, us⟩) ∨ ((rep a us).2 = 1 ∨ (rep a us).2 = 2)) := by
  have hp := chk_proper hc
  have hz : qz.Sml := ⟨Nat.zero_le _, ⟨Nat.zero_le _, Nat.zero_le _, (fun s hs => by cases hs), (fun c hc => by cases hc)⟩, fun u hu => by cases hu⟩
  by_cases h : prs us = 0
  · have hs' : Qa.Sml ⟨a.clock, a.rate, a.sp, a.cur, a.be, a.en, us⟩ := ⟨hl, hs.2.1, hu⟩
    have hP := settled_proper (a := ⟨a.clock, a.rate, a.sp, a.cur, a.be, a.en, us⟩) hp.ck hp.rt h hs' hp.sp (fun e => (hp.st e).1)
    rw [rep_ok h hc]
    exact ⟨settled_sml hs', .inl ⟨rfl, hP.chk, h, rfl⟩⟩
  · rw [rep_bad h]
    have := prs_vals us
    exact ⟨hz, .inr (by omega)⟩
theorem inter_facts {a : Qa} (hc : chk a = 0) (hs : a.Sml) : (inter a).Sml ∧ chk (inter a) = 0 := by
  have hp := chk_proper hc
  exact ⟨settled_sml (silent_sml hs), (settled_proper (a := a.silent) hp.ck hp.rt hp.its (silent_sml hs) (fun e => by cases e) (fun _ => ⟨rfl, rfl, rfl⟩)).chk⟩
end Q
end Go.Proofs.Ytfjkelngdljikaa
