/-
  What moments yields is what the plain law says: Advance. No walk. By an AI agent.
-/
import Derived.Test.YtfjkelngdljikaaMs
namespace Go.Proofs.Ytfjkelngdljikaa
set_option linter.unusedVariables false
set_option linter.unusedSimpArgs false
open Go.RowKit

namespace Q
/-- The last state at which nothing ended. -/
def lastF (q : Qm) (ys : List (Qm × Bool)) : Qm := ys.foldl (fun a x => if x.2 = true then a else x.1) q
/-- What ended. -/
def sayF (ys : List (Qm × Bool)) : List Sa := ys.filterMap fun x => if x.2 = true then some ⟨x.1.cur.u, x.1.be, x.1.en, true⟩ else none
theorem lastF_snoc (q : Qm) (ys : List (Qm × Bool)) (x : Qm × Bool) : lastF q (ys ++ [x]) = if x.2 = true then lastF q ys else x.1 := by simp [lastF]
theorem sayF_snoc (ys : List (Qm × Bool)) (x : Qm × Bool) : sayF (ys ++ [x]) = if x.2 = true then sayF ys ++ [⟨x.1.cur.u, x.1.be, x.1.en, true⟩] else sayF ys := by
  by_cases h : x.2 = true <;> simp [sayF, h]
theorem sayF_le {ys pre post : List (Qm × Bool)} (h : ys = pre ++ post) : (sayF pre).length ≤ (sayF ys).length := by
  rw [h, sayF, sayF, List.filterMap_append, List.length_append]
  omega
def toSa (y : Ut × Int × Int) : Sa := ⟨y.1, y.2.1, y.2.2, true⟩
def toQ (ck rt : Int) (x : St Ut) : Qa :=
  match x.sp with
  | none => ⟨ck, rt, false, zero, 0, 0, x.items⟩
  | some y => ⟨ck, rt, true, y.1, y.2.1, y.2.2, x.items⟩
def ofQ (a : Qa) : St Ut := ⟨if a.sp = true then some (a.cur, a.be, a.en) else none, a.items⟩
/-- What Advance answers of a proper queue. -/
def Qa.adv (a : Qa) (time : Int) : Qa × List Sa := (toQ time a.rate (Q.adv (·.af) (dur a.rate) a.clock (ofQ a) time).1, (Q.adv (·.af) (dur a.rate) a.clock (ofQ a) time).2.map toSa)
/-- The clock set. -/
def Qm.at (q : Qm) (time : Int) : Qm := ⟨time, q.rate, q.sp, q.cur, q.be, q.en, q.items, q.ai, q.ci⟩
def Qa.at (a : Qa) (time : Int) : Qa := ⟨time, a.rate, a.sp, a.cur, a.be, a.en, a.items⟩
theorem Qm.at_a (q : Qm) (time : Int) : (q.at time).a = q.a.at time := rfl
theorem toQ_at (ck rt time : Int) (x : St Ut) : (toQ ck rt x).at time = toQ time rt x := by
  obtain ⟨sp, items⟩ := x
  cases sp <;> rfl
/-- Nothing is left over of what was spoken. -/
def Qa.Clean (a : Qa) : Prop := a.sp = false → a.cur = zero ∧ a.be = 0 ∧ a.en = 0
theorem Qm.begin_some {q : Qm} {x : Um} {l : List Um} (h : q.items = x :: l) (now : Int) : q.begin now = ⟨q.clock, q.rate, true, x, now, now + dur q.rate x.u, l, tailAt q.ai q.ci, q.ci - 1⟩ := by
  rw [Qm.begin, h]
theorem msI_adv (time : Int) : ∀ (n : Nat) (q : Qm) (now : Int) (init : Qm), q.items.length = n → q.sp = false → q.cur.u = zero → q.be = 0 → q.en = 0 →
    (lastF init (msI time n now q)).a = toQ q.clock q.rate (runI (·.af) (dur q.rate) time now q.a.items).1 ∧ sayF (msI time n now q) = (runI (·.af) (dur q.rate) time now q.a.items).2.map toSa
  | 0, q, now, init, hn, hs, hc, hb, he => by
    have hi : q.items = [] := List.eq_nil_of_length_eq_zero hn
    rw [msI]
    simp [lastF, sayF, Qm.a, hi, runI, toQ, hs, hc, hb, he]
  | n + 1, q, now, init, hn, hs, hc, hb, he => by
    obtain ⟨ck, rt, sp, cur, be, en, items, ai, ci⟩ := q
    cases items with
    | nil => simp at hn
    | cons x l =>
      simp only at hs hc hb he
      simp only [List.length_cons, Nat.add_right_cancel_iff] at hn
      simp only [Qm.a, List.map_cons]
      by_cases h1 : time < max now x.u.af
      · rw [msI_late rfl h1, runI_wait _ _ h1]
        simp [lastF, sayF, Qm.a, toQ, hs, hc, hb, he]
      · rw [msI_begin rfl h1 0, Qm.begin_some rfl]
        simp only
        by_cases h2 : time < max now x.u.af + dur rt x.u
        · rw [msL_end rfl h2, runI_speak _ _ (by omega) h2]
          simp [lastF, sayF, Qm.a, toQ]
        · have ih := msI_adv time n (Qm.silent ⟨ck, rt, true, x, max now x.u.af, max now x.u.af + dur rt x.u, l, tailAt ai ci, ci - 1⟩) (max now x.u.af + dur rt x.u) ⟨ck, rt, true, x, max now x.u.af, max now x.u.af + dur rt x.u, l, tailAt ai ci, ci - 1⟩ hn rfl rfl rfl rfl
          rw [msL_done rfl h2, runI_done _ _ (by omega) (by omega)]
          simp only [Qm.silent, Qm.a] at ih
          refine ⟨?_, ?_⟩
          · simpa [lastF, Qm.silent] using ih.1
          · have := ih.2
            simp only [sayF, List.filterMap_cons, Qm.silent, if_true, List.map_cons] at this ⊢
            rw [this]
            rfl
theorem ms_adv {q : Qm} (time : Int) (h : q.a.Clean) : (lastF q (ms time q)).a.at time = (q.a.adv time).1 ∧ sayF (ms time q) = (q.a.adv time).2 := by
  unfold Qa.adv ms
  by_cases hs : q.sp = true
  · have ho : ofQ q.a = ⟨some (q.cur.u, q.be, q.en), q.a.items⟩ := by simp [ofQ, Qm.a, hs]
    rw [ho]
    by_cases h1 : time < q.en
    · rw [msL_end hs h1]
      simp [Q.adv, h1, lastF, sayF, toQ, Qm.a, Qa.at, hs]
    · have hh := msI_adv time q.items.length q.silent q.en q rfl rfl rfl rfl rfl
      rw [msL_done hs h1]
      simp only [Q.adv, h1, if_false]
      refine ⟨?_, ?_⟩
      · have h1' := hh.1
        simp only [lastF, List.foldl_cons, if_true] at h1' ⊢
        rw [h1', toQ_at]
        rfl
      · have h2' := hh.2
        simp only [sayF, List.filterMap_cons, if_true, List.map_cons] at h2' ⊢
        rw [h2']
        rfl
  · have hs' : q.sp = false := by simpa using hs
    have ho : ofQ q.a = ⟨none, q.a.items⟩ := by simp [ofQ, Qm.a, hs']
    have hc := h hs'
    have hh := msI_adv time q.items.length q q.clock q rfl hs' hc.1 hc.2.1 hc.2.2
    rw [ho, msL_still hs']
    simp only [Q.adv]
    exact ⟨by rw [hh.1, toQ_at]; rfl, hh.2⟩

/-- What holds of a queue and of those that come of it. -/
theorem msI_all (time : Int) (p : Qm → Prop) (hb : ∀ q now, p q → p (q.begin now)) (hs : ∀ q, p q → p q.silent) : ∀ (n : Nat) (q : Qm) (now : Int), p q → ∀ x ∈ msI time n now q, p x.1
  | 0, q, now, h, x, hx => by
    simp only [msI, List.mem_singleton] at hx
    subst hx
    exact h
  | n + 1, q, now, h, x, hx => by
    cases hi : q.items with
    | nil =>
      rw [msI_nil hi] at hx
      simp only [List.mem_singleton] at hx
      subst hx
      exact h
    | cons u l =>
      by_cases h1 : time < max now u.u.af
      · rw [msI_late hi h1] at hx
        simp only [List.mem_singleton] at hx
        subst hx
        exact h
      · rw [msI_begin hi h1 0] at hx
        have h' := hb q (max now u.u.af) h
        have hsp : (q.begin (max now u.u.af)).sp = true := by rw [Qm.begin_some hi]
        rcases List.mem_cons.1 hx with rfl | hx
        · exact h'
        · by_cases h2 : time < (q.begin (max now u.u.af)).en
          · rw [msL_end hsp h2] at hx; cases hx
          · rw [msL_done hsp h2] at hx
            rcases List.mem_cons.1 hx with rfl | hx
            · exact h'
            · exact msI_all time p hb hs n _ _ (hs _ h') x hx
theorem ms_all {time : Int} {q : Qm} (p : Qm → Prop) (hb : ∀ q now, p q → p (q.begin now)) (hs : ∀ q, p q → p q.silent) (h : p q) : ∀ x ∈ ms time q, p x.1 := by
  intro x hx
  unfold ms at hx
  by_cases h0 : q.sp = true
  · by_cases h1 : time < q.en
    · rw [msL_end h0 h1] at hx; cases hx
    · rw [msL_done h0 h1] at hx
      rcases List.mem_cons.1 hx with rfl | hx
      · exact h
      · exact msI_all time p hb hs _ _ _ (hs _ h) x hx
  · rw [msL_still (by simpa using h0)] at hx
    exact msI_all time p hb hs _ _ _ h x hx
theorem lastF_all {q : Qm} (p : Qm → Prop) : ∀ (ys : List (Qm × Bool)), p q → (∀ x ∈ ys, p x.1) → p (lastF q ys) := by
  intro ys
  induction ys generalizing q with
  | nil => exact fun h _ => h
  | cons y ys ih =>
    intro h hy
    show p (lastF (if y.2 = true then q else y.1) ys)
    refine ih ?_ (fun x hx => hy x (List.mem_cons_of_mem _ hx))
    split
    · exact h
    · exact hy y (by simp)
theorem silent_sml {a : Qa} (h : a.Sml) : a.silent.Sml := ⟨h.1, ⟨Nat.zero_le _, Nat.zero_le _, (fun s hs => by cases hs), (fun c hc => by cases hc)⟩, h.2.2⟩
theorem ms_sml {time : Int} {q : Qm} (h : q.a.Sml) : ∀ x ∈ ms time q, x.1.a.Sml :=
  ms_all (fun q => q.a.Sml) (fun q now h => by rw [Qm.begin_a]; exact begin_sml h now) (fun q h => by rw [Qm.silent_a]; exact silent_sml h) h
theorem ms_in {W : World} {B : Nat} {time : Int} {q : Qm} (h : QIn W B q) : ∀ x ∈ ms time q, QIn W B x.1 :=
  ms_all (fun q => QIn W B q) (fun q now h => h.begin now) (fun q h => h.silent) h
theorem at_sml {a : Qa} (h : a.Sml) (time : Int) : (a.at time).Sml := h
theorem adv_sml {q : Qm} {time : Int} (h : q.a.Sml) (hc : q.a.Clean) : (q.a.adv time).1.Sml := by
  rw [← (ms_adv time hc).1]
  exact at_sml (lastF_all (fun q => q.a.Sml) _ h (ms_sml h)) time
theorem say_small {time : Int} {q : Qm} (h : q.a.Sml) : ∀ s ∈ sayF (ms time q), Small s.u := by
  intro s hs
  simp only [sayF, List.mem_filterMap] at hs
  obtain ⟨x, hx, he⟩ := hs
  split at he
  · injection he with he
    subst he
    exact (ms_sml h x hx).2.1
  · cases he
theorem runI_len (time : Int) (af du : Ut → Int) (l : List Ut) (now : Int) : (runI af du time now l).2.length ≤ l.length := by
  have := congrArg List.length (runI_left af du time l now)
  simp only [List.length_append, List.length_map] at this
  omega
theorem say_len {time : Int} {q : Qm} (h : q.a.Sml) (hc : q.a.Clean) : (sayF (ms time q)).length ≤ 17 := by
  rw [(ms_adv time hc).2]
  unfold Qa.adv
  rw [List.length_map]
  have hl := congrArg List.length (adv_left (·.af) (dur q.a.rate) q.a.clock time (ofQ q.a))
  simp only [List.length_append, List.length_map] at hl
  have h2 : (left (ofQ q.a)).length ≤ 17 := by
    have h8 := h.1
    simp only [left, ofQ, List.length_append]
    by_cases hs : q.a.sp = true <;> simp [hs] <;> omega
  omega
theorem chk_clean {a : Qa} (h : chk a = 0) : a.Clean := by
  intro hs
  by_cases h1 : a.clock < 0 ∨ 1099511627776 < a.clock ∨ a.rate < 25 ∨ 400 < a.rate
  · rw [chk_clock h1] at h; cases h
  · by_cases h2 : a.cur ≠ zero ∨ a.be ≠ 0 ∨ a.en ≠ 0
    · rw [chk_none h1 hs h2] at h; cases h
    · simp only [not_or, Decidable.not_not] at h2
      exact h2
theorem chk_en {a : Qa} (h : chk a = 0) (hs : a.sp = true) : 0 ≤ a.en ∧ a.en ≤ 2199023255552 ∧ a.clock < a.en := by
  have hc := chk_clock0 h
  by_cases h1 : a.clock < 0 ∨ 1099511627776 < a.clock ∨ a.rate < 25 ∨ 400 < a.rate
  · rw [chk_clock h1] at h; cases h
  · by_cases hp : pr a.cur = 0
    · by_cases ho : a.be < a.cur.af ∨ a.clock < a.be ∨ a.en ≤ a.clock ∨ 2199023255552 < a.en
      · rw [chk_ord h1 hs hp ho] at h; cases h
      · omega
    · rw [chk_pr h1 hs hp] at h; exact absurd h hp
end Q
end Go.Proofs.Ytfjkelngdljikaa
