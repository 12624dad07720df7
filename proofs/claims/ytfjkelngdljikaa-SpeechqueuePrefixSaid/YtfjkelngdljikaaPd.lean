/-
  The law Prefix of layer 44: its plain law. No walk. By an AI agent.
-/
import Derived.Test.YtfjkelngdljikaaCut
namespace Go.Proofs.Ytfjkelngdljikaa
set_option linter.unusedVariables false
set_option linter.unusedSimpArgs false
open Go.RowKit

namespace Q
theorem settled_same (a : Qa) : a.settled.rate = a.rate ∧ a.settled.clock = a.clock := by
  unfold Qa.settled
  split
  · cases h : a.items <;> simp [Qa.begin, h]
  · exact ⟨rfl, rfl⟩
/-- Further utterances: what Replace answers. -/
theorem pre_facts {a X1 : Qa} {us m : List Ut} {n : Int} (hX : rep a us = (X1, n)) (hc : chk a = 0) (hs : a.Sml) (hl : us.length ≤ 16) (hu : ∀ u ∈ us, Small u) (hm : us = a.items ++ m) :
    X1.Sml ∧ ((n = 0 ∧ chk X1 = 0 ∧ X1.clock = a.clock ∧ fin a ≤ fin X1 ∧ ∀ t, a.clock ≤ t → (a.adv t).2 <+: (X1.adv t).2) ∨ n = 1 ∨ n = 2) := by
  obtain ⟨h1, h2⟩ := rep_facts hc hs hl hu
  rw [hX] at h1 h2
  simp only at h1 h2
  refine ⟨h1, ?_⟩
  rcases h2 with ⟨h3, h4, h5, h6⟩ | h2
  · refine .inl ⟨h3, h4, ?_, ?_, fun t ht => ?_⟩
    · rw [h6]; exact (settled_same _).2
    · have e1 := fin_eq (chk_proper hc) hs
      have e2 := fin_eq (chk_proper h4) h1
      have r1 : X1.rate = a.rate := by rw [h6]; exact (settled_same _).1
      have r2 : X1.clock = a.clock := by rw [h6]; exact (settled_same _).2
      have r := (rep_more hc hs h5 m hm (Int.le_refl _)).2
      rw [← h6] at r
      rw [r1, r2] at e2
      omega
    · rw [h6]; exact (rep_more hc hs h5 m hm ht).1
  · exact .inr h2
/-- The reports, as the law compares them. -/
theorem pre_take {l m : List Sm} (h : l.map Sm.a <+: m.map Sm.a) : l.length ≤ m.length ∧ l.map Sm.a = (m.take l.length).map Sm.a := by
  have h1 := h.length_le
  rw [List.length_map, List.length_map] at h1
  refine ⟨h1, ?_⟩
  obtain ⟨t, ht⟩ := h
  rw [List.map_take, ← ht, List.take_left' (by rw [List.length_map])]
end Q
end Go.Proofs.Ytfjkelngdljikaa
