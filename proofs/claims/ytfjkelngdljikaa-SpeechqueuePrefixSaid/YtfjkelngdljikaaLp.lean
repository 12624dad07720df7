/-
  What is proper stays proper; the plain laws of layer 44 over queues. No walk. By an AI agent.
-/
import Derived.Test.YtfjkelngdljikaaAe
import Derived.Test.YtfjkelngdljikaaRre
namespace Go.Proofs.Ytfjkelngdljikaa
set_option linter.unusedVariables false
set_option linter.unusedSimpArgs false
open Go.RowKit

namespace Q
/-- A proper queue. -/
structure Proper (a : Qa) : Prop where
  ck : 0 ≤ a.clock ∧ a.clock ≤ 1099511627776
  rt : 25 ≤ a.rate ∧ a.rate ≤ 400
  sp : a.sp = true → pr a.cur = 0 ∧ a.cur.af ≤ a.be ∧ a.be ≤ a.clock ∧ a.clock < a.en ∧ a.en ≤ 2199023255552
  st : a.sp = false → (a.cur = zero ∧ a.be = 0 ∧ a.en = 0) ∧ soon a.clock a.items = false
  its : prs a.items = 0
theorem chk_proper {a : Qa} (h : chk a = 0) : Proper a := by
  by_cases h1 : a.clock < 0 ∨ 1099511627776 < a.clock ∨ a.rate < 25 ∨ 400 < a.rate
  · rw [chk_clock h1] at h; cases h
  · refine ⟨by omega, by omega, fun hs => ?_, fun hs => ?_, ?_⟩
    · by_cases hp : pr a.cur = 0
      · by_cases ho : a.be < a.cur.af ∨ a.clock < a.be ∨ a.en ≤ a.clock ∨ 2199023255552 < a.en
        · rw [chk_ord h1 hs hp ho] at h; cases h
        · exact ⟨hp, by omega⟩
      · rw [chk_pr h1 hs hp] at h; exact absurd h hp
    · by_cases hn : a.cur ≠ zero ∨ a.be ≠ 0 ∨ a.en ≠ 0
      · rw [chk_none h1 hs hn] at h; cases h
      · have hh := hn
        simp only [not_or, Decidable.not_not] at hh
        refine ⟨hh, ?_⟩
        rw [chk_f h1 hs hn] at h
        split at h
        · rename_i h0; exact absurd h h0
        · split at h
          · cases h
          · rename_i h2; simpa using h2
    · cases hs : a.sp with
      | true =>
        by_cases hp : pr a.cur = 0
        · by_cases ho : a.be < a.cur.af ∨ a.clock < a.be ∨ a.en ≤ a.clock ∨ 2199023255552 < a.en
          · rw [chk_ord h1 hs hp ho] at h; cases h
          · rwa [chk_t h1 hs hp ho] at h
        · rw [chk_pr h1 hs hp] at h; exact absurd h hp
      | false =>
        by_cases hn : a.cur ≠ zero ∨ a.be ≠ 0 ∨ a.en ≠ 0
        · rw [chk_none h1 hs hn] at h; cases h
        · rw [chk_f h1 hs hn] at h
          split at h
          · rename_i h0; exact absurd h h0
          · rename_i h0; exact Decidable.not_not.1 h0
theorem Proper.chk {a : Qa} (h : Proper a) : chk a = 0 := by
  have h1 : ¬ (a.clock < 0 ∨ 1099511627776 < a.clock ∨ a.rate < 25 ∨ 400 < a.rate) := by have := h.ck; have := h.rt; omega
  cases hs : a.sp with
  | true =>
    have h2 := h.sp hs
    rw [chk_t h1 hs h2.1 (by omega)]
    exact h.its
  | false =>
    obtain ⟨h2, h3⟩ := h.st hs
    rw [chk_f h1 hs (by simp only [not_or, Decidable.not_not]; exact h2), if_neg (fun hh => hh h.its), if_neg (by rw [h3]; simp)]
theorem soon_right {clock : Int} {l : List Ut} (h : soon clock l = false) : ∀ u r, l = u :: r → clock < u.af := by
  rintro u r rfl
  simpa [soon] using h
theorem right_soon {clock : Int} {l : List Ut} (h : ∀ u r, l = u :: r → clock < u.af) : soon clock l = false := by
  cases l with
  | nil => rfl
  | cons u r => simpa [soon] using h u r rfl
theorem Proper.right {a : Qa} (h : Proper a) : Right (·.af) a.clock (ofQ a) := by
  cases hs : a.sp with
  | true =>
    have h2 := h.sp hs
    refine ⟨fun y hy => ?_, fun hn => by simp [ofQ, hs] at hn⟩
    simp only [ofQ, hs, if_true, Option.some.injEq] at hy
    subst hy
    exact ⟨h2.2.1, h2.2.2.1, h2.2.2.2.1⟩
  | false =>
    refine ⟨fun y hy => by simp [ofQ, hs] at hy, fun _ u l hl => soon_right (h.st hs).2 u l hl⟩
theorem ofQ_toQ (ck rt : Int) (x : St Ut) : ofQ (toQ ck rt x) = x := by
  obtain ⟨sp, items⟩ := x
  cases sp <;> rfl
theorem toQ_rate (ck rt : Int) (x : St Ut) : (toQ ck rt x).rate = rt := by
  obtain ⟨sp, items⟩ := x
  cases sp <;> rfl
theorem toQ_clock (ck rt : Int) (x : St Ut) : (toQ ck rt x).clock = ck := by
  obtain ⟨sp, items⟩ := x
  cases sp <;> rfl
theorem toQ_items (ck rt : Int) (x : St Ut) : (toQ ck rt x).items = x.items := by
  obtain ⟨sp, items⟩ := x
  cases sp <;> rfl
/-- What is spoken when a run stops. -/
theorem runI_en {U : Type} (af du : U → Int) (time : Int) : ∀ (l : List U) (now : Int) (y : U × Int × Int), (runI af du time now l).1.sp = some y → y.2.1 ≤ time ∧ y.2.2 = y.2.1 + du y.1 ∧ y.1 ∈ l := by
  intro l
  induction l with
  | nil => intro now y h; cases h
  | cons u l ih =>
    intro now y h
    by_cases h1 : time < max now (af u)
    · rw [runI_wait af du h1] at h; cases h
    · by_cases h2 : time < max now (af u) + du u
      · rw [runI_speak af du (by omega) h2] at h
        injection h with h
        subst h
        exact ⟨by simp only; omega, rfl, by simp⟩
      · rw [runI_done af du (by omega) (by omega)] at h
        obtain ⟨a, b, c⟩ := ih _ y h
        exact ⟨a, b, List.mem_cons_of_mem _ c⟩
theorem runI_mem {U : Type} (af du : U → Int) (time : Int) (l : List U) (now : Int) : ∀ u ∈ (runI af du time now l).1.items, u ∈ l := by
  intro u hu
  rw [← runI_left af du time l now]
  exact List.mem_append_right _ (List.mem_append_right _ hu)
theorem prs_mem {l : List Ut} (h : prs l = 0) {u : Ut} (hu : u ∈ l) : pr u = 0 := (prs_iff l).1 h u hu
theorem prs_of {l : List Ut} (h : ∀ u ∈ l, pr u = 0) : prs l = 0 := (prs_iff l).2 h
theorem pr_af {u : Ut} (h : pr u = 0) : 0 ≤ u.af ∧ u.af ≤ 1099511627776 := by
  unfold pr at h
  split at h
  · cases h
  · split at h
    · cases h
    · omega
/-- A run from silence ends properly. -/
theorem runI_proper {time now rt : Int} {l : List Ut} (hn : now ≤ time) (h0 : 0 ≤ time) (h1 : time ≤ 1099511627776) (hr : 25 ≤ rt ∧ rt ≤ 400) (hl : prs l = 0) (hs : ∀ u ∈ l, Small u) : Proper (toQ time rt (runI (·.af) (dur rt) time now l).1) := by
  have hR := runI_right (·.af) (dur rt) (time := time) l now hn
  have hE := runI_en (·.af) (dur rt) time l now
  have hM := runI_mem (·.af) (dur rt) time l now
  generalize (runI (·.af) (dur rt) time now l).1 = x at *
  obtain ⟨sp, items⟩ := x
  cases sp with
  | none => exact ⟨⟨h0, h1⟩, hr, (fun h => by cases h), fun _ => ⟨⟨rfl, rfl, rfl⟩, right_soon (hR.2 rfl)⟩, prs_of fun u hu => prs_mem hl (hM u hu)⟩
  | some y =>
    obtain ⟨e1, e2, e3⟩ := hE y rfl
    have r := hR.1 y rfl
    have d := Small.dur (hs _ e3) rt
    exact ⟨⟨h0, h1⟩, hr, fun _ => ⟨prs_mem hl e3, r.1, r.2.1, r.2.2, by show y.2.2 ≤ _; omega⟩, (fun h => by cases h), prs_of fun u hu => prs_mem hl (hM u hu)⟩
theorem adv_proper {a : Qa} {time : Int} (h : Proper a) (hs : a.Sml) (h1 : a.clock ≤ time) (h2 : time ≤ 1099511627776) : Proper (a.adv time).1 := by
  have h0 : 0 ≤ time := by have := h.ck; omega
  unfold Qa.adv
  cases hsp : a.sp with
  | true =>
    have ho : ofQ a = ⟨some (a.cur, a.be, a.en), a.items⟩ := by simp [ofQ, hsp]
    have hh := h.sp hsp
    rw [ho]
    by_cases ht : time < a.en
    · simp only [Q.adv, ht, if_true]
      exact ⟨⟨h0, h2⟩, h.rt, fun _ => ⟨hh.1, hh.2.1, Int.le_trans hh.2.2.1 h1, ht, hh.2.2.2.2⟩, (fun e => by cases e), h.its⟩
    · simp only [Q.adv, ht, if_false]
      exact runI_proper (by omega) h0 h2 h.rt h.its hs.2.2
  | false =>
    have ho : ofQ a = ⟨none, a.items⟩ := by simp [ofQ, hsp]
    rw [ho]
    exact runI_proper h1 h0 h2 h.rt h.its hs.2.2
theorem adv_chk {a : Qa} {time : Int} (h : chk a = 0) (hs : a.Sml) (h1 : a.clock ≤ time) (h2 : time ≤ 1099511627776) : chk (a.adv time).1 = 0 :=
  (adv_proper (chk_proper h) hs h1 h2).chk
/-- Reports are small. -/
theorem adv_say_small {a : Qa} {time : Int} (hs : a.Sml) : ∀ s ∈ (a.adv time).2, Small s.u := by
  intro s hs'
  unfold Qa.adv at hs'
  obtain ⟨y, hy, rfl⟩ := List.mem_map.1 hs'
  have hL := adv_left (·.af) (dur a.rate) a.clock time (ofQ a)
  have : y.1 ∈ left (ofQ a) := by rw [← hL]; exact List.mem_append_left _ (List.mem_map.2 ⟨y, hy, rfl⟩)
  simp only [left, ofQ, List.mem_append] at this
  rcases this with h | h
  · by_cases hsp : a.sp = true
    · simp [hsp] at h; rw [show (toSa y).u = y.1 from rfl, h]; exact hs.2.1
    · simp [hsp] at h
  · exact hs.2.2 _ h
theorem adv_say_len {a : Qa} {time : Int} (hs : a.Sml) : (a.adv time).2.length ≤ 17 := by
  unfold Qa.adv
  rw [List.length_map]
  have hl := congrArg List.length (adv_left (·.af) (dur a.rate) a.clock time (ofQ a))
  simp only [List.length_append, List.length_map] at hl
  have h2 : (left (ofQ a)).length ≤ 17 := by
    have h8 := hs.1
    simp only [left, ofQ, List.length_append]
    by_cases hs : a.sp = true <;> simp [hs] <;> omega
  omega
theorem adv_sml' {a : Qa} {time : Int} (hs : a.Sml) : (a.adv time).1.Sml := by
  have hL := adv_left (·.af) (dur a.rate) a.clock time (ofQ a)
  have hI : ∀ u ∈ left (ofQ a), Small u := by
    intro u hu
    simp only [left, ofQ, List.mem_append] at hu
    rcases hu with h | h
    · by_cases hsp : a.sp = true
      · simp [hsp] at h; subst h; exact hs.2.1
      · simp [hsp] at h
    · exact hs.2.2 _ h
  have hlen : (Q.adv (·.af) (dur a.rate) a.clock (ofQ a) time).1.items.length ≤ 16 := by
    have h8 := hs.1
    unfold Q.adv
    split
    · have := runI_mem (·.af) (dur a.rate) time (ofQ a).items a.clock
      have hh := congrArg List.length (runI_left (·.af) (dur a.rate) time (ofQ a).items a.clock)
      simp only [List.length_append, left] at hh
      show _ ≤ 16
      have : (ofQ a).items.length ≤ 16 := h8
      omega
    · split
      · exact h8
      · have hh := fun now => congrArg List.length (runI_left (·.af) (dur a.rate) time (ofQ a).items now)
        simp only [List.length_append, left] at hh
        rename_i x _ _
        have := hh x.2.2
        have : (ofQ a).items.length ≤ 16 := h8
        simp only
        omega
  unfold Qa.adv
  generalize Q.adv (·.af) (dur a.rate) a.clock (ofQ a) time = r at *
  obtain ⟨⟨sp, items⟩, rep⟩ := r
  have hin : ∀ u ∈ left (⟨sp, items⟩ : St Ut), Small u := fun u hu => hI u (by rw [← hL]; exact List.mem_append_right _ hu)
  cases sp with
  | none => exact ⟨hlen, ⟨Nat.zero_le _, Nat.zero_le _, (fun s hs => by cases hs), (fun c hc => by cases hc)⟩, fun u hu => hin u (by simp [left]; exact hu)⟩
  | some y => exact ⟨hlen, hin y.1 (by simp [left]), fun u hu => hin u (by simp [left]; exact .inr hu)⟩
end Q
end Go.Proofs.Ytfjkelngdljikaa
