/-
  Utterances and queues in memory; what is proper. No walk. By an AI agent.
-/
import Derived.Test.YtfjkelngdljikaaChg
import Derived.Test.YtfjkelngdljikaaPlain
import Derived.Test.YtfjkelngdljikaaDw
namespace Go.Proofs.Ytfjkelngdljikaa
set_option linter.unusedVariables false
open Go.RowKit

namespace Q
/-- An utterance. -/
structure Ut where
  words : List ByteArray
  chs : List R.Cx
  cl : Int
  af : Int
  up : Int
deriving DecidableEq
/-- An utterance with its slices. -/
structure Um where
  u : Ut
  aw : Option Addr
  cw : Nat
  ac : Option Addr
  cc : Nat
def Um.cells (m : Um) : List Value := [.slice m.aw m.u.words.length m.cw, .slice m.ac m.u.chs.length m.cc, .int .i64 m.u.cl, .int .i64 m.u.af, .int .i64 m.u.up]
theorem Um.cells_len (m : Um) : m.cells.length = 5 := rfl
/-- An utterance that can be read. -/
structure UIn (W : World) (B : Nat) (m : Um) : Prop where
  w : Reads W B 1 m.aw m.u.words.length (m.u.words.map Value.string)
  c : ∃ xs : List R.Cs, xs.map (·.c) = m.u.chs ∧ R.Chs W B m.ac xs
  hw : m.u.words.length ≤ m.cw
  hc : m.u.chs.length ≤ m.cc
variable {W W' : World} {B B' : Nat} {m : Um}
theorem UIn.below {B₁ : Nat} (h : UIn W B m) (hb : Below B₁ W W') (hB : B ≤ B₁) : UIn W' B m :=
  ⟨h.w.below hb hB, let ⟨xs, e, hx⟩ := h.c; ⟨xs, e, hx.below hb hB⟩, h.hw, h.hc⟩
theorem UIn.drewN (h : UIn W B m) (n : Nat) : UIn (W.drewN n) B m :=
  ⟨h.w.drewN n, let ⟨xs, e, hx⟩ := h.c; ⟨xs, e, hx.drewN n⟩, h.hw, h.hc⟩
theorem UIn.more (h : UIn W B m) (hB : B ≤ B') : UIn W B' m :=
  ⟨h.w.more hB, let ⟨xs, e, hx⟩ := h.c; ⟨xs, e, hx.more hB⟩, h.hw, h.hc⟩
/-- Utterances, as cells. -/
def ucs (l : List Um) : List Value := l.flatMap Um.cells
theorem ucs_len (l : List Um) : (ucs l).length = l.length * 5 := by
  induction l with
  | nil => rfl
  | cons g l ih => simp only [ucs, List.flatMap_cons, List.length_append, Um.cells_len, List.length_cons] at ih ⊢; omega
theorem ucs_one (l : List Um) : ∀ u ∈ ucs l, u.oneCell' = true := by
  intro u hu
  simp only [ucs, List.mem_flatMap, Um.cells, List.mem_cons, List.not_mem_nil, or_false] at hu
  obtain ⟨r, _, h⟩ := hu
  rcases h with rfl | rfl | rfl | rfl | rfl <;> rfl
structure UsIn (W : World) (B : Nat) (A : Option Addr) (l : List Um) : Prop where
  row : Reads W B 5 A l.length (ucs l)
  el : ∀ m ∈ l, UIn W B m
variable {A : Option Addr} {l : List Um}
theorem UsIn.below {B₁ : Nat} (h : UsIn W B A l) (hb : Below B₁ W W') (hB : B ≤ B₁) : UsIn W' B A l := ⟨h.row.below hb hB, fun m hm => (h.el m hm).below hb hB⟩
theorem UsIn.drewN (h : UsIn W B A l) (n : Nat) : UsIn (W.drewN n) B A l := ⟨h.row.drewN n, fun m hm => (h.el m hm).drewN n⟩
theorem UsIn.more (h : UsIn W B A l) (hB : B ≤ B') : UsIn W B' A l := ⟨h.row.more hB, fun m hm => (h.el m hm).more hB⟩
/-- The cells of an utterance at a place. -/
structure UAt (w : World) (b o : Nat) (m : Um) : Prop where
  c0 : w.cell? ⟨b, o, none⟩ = some (.slice m.aw m.u.words.length m.cw)
  c1 : w.cell? ⟨b, o + 1, none⟩ = some (.slice m.ac m.u.chs.length m.cc)
  c2 : w.cell? ⟨b, o + 2, none⟩ = some (.int .i64 m.u.cl)
  c3 : w.cell? ⟨b, o + 3, none⟩ = some (.int .i64 m.u.af)
  c4 : w.cell? ⟨b, o + 4, none⟩ = some (.int .i64 m.u.up)
theorem reads_at (h : Reads W B 5 A l.length (ucs l)) (hn : 0 < l.length) :
    ∃ b off, A = some ⟨b, off, none⟩ ∧ b < B ∧ ∀ k (hk : k < l.length), UAt W b (off + k * 5) l[k] := by
  obtain ⟨b, off, e, hb, hc⟩ := h.flat hn (by decide)
  refine ⟨b, off, e, hb, fun k hk => ?_⟩
  have hg : ∀ j, j < 5 → (ucs l)[k * 5 + j]? = (l[k].cells)[j]? := fun j hj => by
    unfold ucs
    rw [flat_get Um.cells 5 l Um.cells_len k j hj, List.getElem?_eq_getElem hk]
    rfl
  exact ⟨hc (k * 5 + 0) _ (hg 0 (by decide)), hc (k * 5 + 1) _ (hg 1 (by decide)), hc (k * 5 + 2) _ (hg 2 (by decide)), hc (k * 5 + 3) _ (hg 3 (by decide)), hc (k * 5 + 4) _ (hg 4 (by decide))⟩
/-- A queue. -/
structure Qa where
  clock : Int
  rate : Int
  sp : Bool
  cur : Ut
  be : Int
  en : Int
  items : List Ut
deriving DecidableEq
/-- A queue with its slices. -/
structure Qm where
  clock : Int
  rate : Int
  sp : Bool
  cur : Um
  be : Int
  en : Int
  items : List Um
  ai : Option Addr
  ci : Nat
def Qm.a (q : Qm) : Qa := ⟨q.clock, q.rate, q.sp, q.cur.u, q.be, q.en, q.items.map (·.u)⟩
def Qm.cells (q : Qm) : List Value := [.int .i64 q.clock, .int .i64 q.rate, .bool q.sp, .slice q.cur.aw q.cur.u.words.length q.cur.cw, .slice q.cur.ac q.cur.u.chs.length q.cur.cc, .int .i64 q.cur.u.cl, .int .i64 q.cur.u.af, .int .i64 q.cur.u.up, .int .i64 q.be, .int .i64 q.en, .slice q.ai q.items.length q.ci]
structure QIn (W : World) (B : Nat) (q : Qm) : Prop where
  cur : UIn W B q.cur
  items : UsIn W B q.ai q.items
  hi : q.items.length ≤ q.ci
theorem QIn.below {q : Qm} {B₁ : Nat} (h : QIn W B q) (hb : Below B₁ W W') (hB : B ≤ B₁) : QIn W' B q := ⟨h.cur.below hb hB, h.items.below hb hB, h.hi⟩
theorem QIn.drewN {q : Qm} (h : QIn W B q) (n : Nat) : QIn (W.drewN n) B q := ⟨h.cur.drewN n, h.items.drewN n, h.hi⟩
theorem QIn.more {q : Qm} (h : QIn W B q) (hB : B ≤ B') : QIn W B' q := ⟨h.cur.more hB, h.items.more hB, h.hi⟩

/-! What is proper. -/
def zero : Ut := ⟨[], [], 0, 0, 0⟩
def pr (u : Ut) : Int := if u.words.length = 0 then 1 else if u.af < 0 ∨ 1099511627776 < u.af then 2 else 0
def prs : List Ut → Int
  | [] => 0
  | u :: l => if pr u ≠ 0 then pr u else prs l
/-- The first that waits may begin. -/
def soon (clock : Int) : List Ut → Bool
  | [] => false
  | u :: _ => decide (u.af ≤ clock)
def chk (q : Qa) : Int :=
  if q.clock < 0 ∨ 1099511627776 < q.clock ∨ q.rate < 25 ∨ 400 < q.rate then 2
  else if q.sp = true ∧ pr q.cur ≠ 0 then pr q.cur
  else if q.sp = true ∧ (q.be < q.cur.af ∨ q.clock < q.be ∨ q.en ≤ q.clock ∨ 2199023255552 < q.en) then 10
  else if q.sp = false ∧ (q.cur ≠ zero ∨ q.be ≠ 0 ∨ q.en ≠ 0) then 1
  else if prs q.items ≠ 0 then prs q.items
  else if q.sp = false ∧ soon q.clock q.items = true then 10 else 0
theorem chk_clock {q : Qa} (h : q.clock < 0 ∨ 1099511627776 < q.clock ∨ q.rate < 25 ∨ 400 < q.rate) : chk q = 2 := by unfold chk; rw [if_pos h]
theorem chk_pr {q : Qa} (h : ¬ (q.clock < 0 ∨ 1099511627776 < q.clock ∨ q.rate < 25 ∨ 400 < q.rate)) (hs : q.sp = true) (hp : pr q.cur ≠ 0) : chk q = pr q.cur := by
  unfold chk; rw [if_neg h, if_pos ⟨hs, hp⟩]
theorem chk_ord {q : Qa} (h : ¬ (q.clock < 0 ∨ 1099511627776 < q.clock ∨ q.rate < 25 ∨ 400 < q.rate)) (hs : q.sp = true) (hp : pr q.cur = 0) (ho : q.be < q.cur.af ∨ q.clock < q.be ∨ q.en ≤ q.clock ∨ 2199023255552 < q.en) : chk q = 10 := by
  unfold chk; rw [if_neg h, if_neg (fun hh => hh.2 hp), if_pos ⟨hs, ho⟩]
theorem chk_none {q : Qa} (h : ¬ (q.clock < 0 ∨ 1099511627776 < q.clock ∨ q.rate < 25 ∨ 400 < q.rate)) (hs : q.sp = false) (hn : q.cur ≠ zero ∨ q.be ≠ 0 ∨ q.en ≠ 0) : chk q = 1 := by
  unfold chk; rw [if_neg h, if_neg (fun hh => by rw [hs] at hh; cases hh.1), if_neg (fun hh => by rw [hs] at hh; cases hh.1), if_pos ⟨hs, hn⟩]
theorem chk_t {q : Qa} (h : ¬ (q.clock < 0 ∨ 1099511627776 < q.clock ∨ q.rate < 25 ∨ 400 < q.rate)) (hs : q.sp = true) (hp : pr q.cur = 0) (ho : ¬ (q.be < q.cur.af ∨ q.clock < q.be ∨ q.en ≤ q.clock ∨ 2199023255552 < q.en)) : chk q = prs q.items := by
  unfold chk; rw [if_neg h, if_neg (fun hh => hh.2 hp), if_neg (fun hh => ho hh.2), if_neg (fun hh => by rw [hs] at hh; cases hh.1)]
  by_cases h0 : prs q.items = 0
  · rw [if_neg (fun hh => hh h0), if_neg (fun hh => by rw [hs] at hh; cases hh.1), h0]
  · rw [if_pos h0]
theorem chk_f {q : Qa} (h : ¬ (q.clock < 0 ∨ 1099511627776 < q.clock ∨ q.rate < 25 ∨ 400 < q.rate)) (hs : q.sp = false) (hn : ¬ (q.cur ≠ zero ∨ q.be ≠ 0 ∨ q.en ≠ 0)) : chk q = if prs q.items ≠ 0 then prs q.items else if soon q.clock q.items = true then 10 else 0 := by
  unfold chk; rw [if_neg h, if_neg (fun hh => by rw [hs] at hh; cases hh.1), if_neg (fun hh => by rw [hs] at hh; cases hh.1), if_neg (fun hh => hn hh.2)]
  by_cases h0 : prs q.items = 0
  · by_cases h1 : soon q.clock q.items = true
    · simp [h0, h1, hs]
    · simp [h0, h1]
  · simp [h0]
theorem pr_vals (u : Ut) : pr u = 0 ∨ pr u = 1 ∨ pr u = 2 := by
  unfold pr
  split
  · simp
  · split <;> simp
theorem prs_vals (l : List Ut) : prs l = 0 ∨ prs l = 1 ∨ prs l = 2 := by
  induction l with
  | nil => exact .inl rfl
  | cons u l ih =>
    rw [prs]
    split
    · exact pr_vals u
    · exact ih
theorem prs_take {l : List Ut} {k : Nat} (h : k < l.length) (h0 : prs (l.take k) = 0) : prs (l.take (k + 1)) = pr l[k] := by
  induction l generalizing k with
  | nil => exact absurd h (by simp)
  | cons u l ih =>
    cases k with
    | zero =>
      simp only [List.take_succ_cons, List.take_zero, prs, List.getElem_cons_zero]
      split
      · rfl
      · rename_i h'; exact (Decidable.not_not.1 h').symm
    | succ k =>
      rw [List.take_succ_cons, prs] at h0
      split at h0
      · rename_i h'; exact absurd h0 h'
      · rename_i h'
        rw [List.take_succ_cons, prs, if_neg h', ih (by simpa using h) h0]
        rfl
theorem prs_bad {l : List Ut} {k : Nat} (h : k < l.length) (h0 : prs (l.take k) = 0) (h1 : pr l[k] ≠ 0) : prs l = pr l[k] := by
  induction l generalizing k with
  | nil => exact absurd h (by simp)
  | cons u l ih =>
    cases k with
    | zero => rw [prs]; exact if_pos h1
    | succ k =>
      rw [List.take_succ_cons, prs] at h0
      split at h0
      · rename_i h'; exact absurd h0 h'
      · rename_i h'
        rw [prs, if_neg h', ih (by simpa using h) h0 h1]
        rfl
theorem prs_iff (l : List Ut) : prs l = 0 ↔ ∀ u ∈ l, pr u = 0 := by
  induction l with
  | nil => simp [prs]
  | cons u l ih =>
    rw [prs]
    by_cases h : pr u = 0
    · simp [h, ih]
    · simp [h]
end Q
end Go.Proofs.Ytfjkelngdljikaa
