/-
  A list of edits in memory of the call's own: a row of edits, each with a row of its own for what it inserts. No program in sight. By an AI agent.
-/
import Derived.Deep.OwnRows
import Derived.Laws.OwnMore
import Derived.Test.YteakiielcmgkeaaAppend
import Derived.Test.YteakiielcmgkeaaEPlain3
namespace Go.Proofs.Yteakiielcmgkeaa
open Go.RowKit

namespace E
/-- An edit with the slice of what it inserts. -/
structure Es (α : Type) where
  ed : Ed α
  sl : Value

variable {α : Type}
def ec (x : Es α) : List Value := [.int .i64 x.ed.at_, .int .i64 x.ed.del, x.sl]
theorem ec_len (x : Es α) : (ec x).length = 3 := rfl

/-- TE: the edits' type; TI, sz, cv: the type of an element, its cells. -/
structure Eds (TE TI sz : Nat) (cv : α → List Value) (base : Nat) (W : World) (v : Value) (es : List (Es α)) : Prop where
  own : W.ownsRow base TE 3 v es.length (es.flatMap ec)
  ins : ∀ x ∈ es, W.ownsRow base TI sz x.sl x.ed.ins.length (x.ed.ins.flatMap cv)
  sep : es.Pairwise fun x y => ∀ g, x.sl.ownBlock = some g → y.sl.ownBlock ≠ some g

variable {TE TI sz base : Nat} {cv : α → List Value} {W W' : World} {v : Value} {es : List (Es α)}

theorem own_type {w : World} {base e size n : Nat} {v : Value} {xs : List Value} (h : w.ownsRow base e size v n xs) {g : Nat} (hg : v.ownBlock = some g) : ∃ cur, w.heap[g]? = some (.cells cur e (0, 0)) := by
  rcases h.2 with ⟨rfl, _⟩ | ⟨g', cap, cur, rfl, _, hc, _⟩
  · simp [Value.ownBlock] at hg
  · simp [Value.ownBlock] at hg
    subst hg
    exact ⟨cur, hc⟩

theorem eds_nil (W : World) : Eds TE TI sz cv base W (.slice none 0 0) ([] : List (Es α)) :=
  ⟨by simpa using World.ownsRow_nil W base TE 3, (fun x hx => by cases hx), List.Pairwise.nil⟩

/-- The edits' own row is none of the inserted ones. -/
theorem eds_apart (h : Eds TE TI sz cv base W v es) (hT : TE ≠ TI) {x : Es α} (hx : x ∈ es) {g : Nat} (hg : v.ownBlock = some g) : x.sl.ownBlock ≠ some g := by
  intro e
  obtain ⟨c1, h1⟩ := own_type h.own hg
  obtain ⟨c2, h2⟩ := own_type (h.ins x hx) e
  rw [h1] at h2
  injection h2 with h2
  injection h2 with _ h2
  exact hT h2

theorem eds_kept {row : Option Nat} (h : Eds TE TI sz cv base W v es) (hg : W.grownBy W' row) (hv : ∀ g, v.ownBlock = some g → row ≠ some g) (hi : ∀ x ∈ es, ∀ g, x.sl.ownBlock = some g → row ≠ some g) : Eds TE TI sz cv base W' v es := by
  have side : ∀ u : Value, (∀ g, u.ownBlock = some g → row ≠ some g) → u.ownBlock = none ∨ u.ownBlock ≠ row := by
    intro u hu
    cases hb : u.ownBlock with
    | none => exact .inl rfl
    | some g => exact .inr (fun e => hu g hb e.symm)
  exact ⟨h.own.kept hg (side v hv), fun x hx => (h.ins x hx).kept hg (side x.sl (hi x hx)), h.sep⟩
theorem eds_grown (h : Eds TE TI sz cv base W v es) (hg : W.grownBy W' none) : Eds TE TI sz cv base W' v es :=
  eds_kept h hg (fun g _ => by simp) (fun x _ g _ => by simp)

/-- One edit more, that inserts nothing yet: behind append's law. -/
theorem eds_push (h : Eds TE TI sz cv base W v es) (hT : TE ≠ TI) {v' : Value} {e : Ed α} (hi : e.ins = []) (hg : W.grownBy W' v.ownBlock)
    (hown : W'.ownsRow base TE 3 v' (es.length + 1) (es.flatMap ec ++ ec ⟨e, .slice none 0 0⟩)) : Eds TE TI sz cv base W' v' (es ++ [⟨e, .slice none 0 0⟩]) := by
  refine ⟨by simpa using hown, fun x hx => ?_, ?_⟩
  · rcases List.mem_append.1 hx with hx | hx
    · refine (h.ins x hx).kept hg ?_
      cases hb : x.sl.ownBlock with
      | none => exact .inl rfl
      | some g => exact .inr (fun ee => eds_apart h hT hx ee.symm hb)
    · simp at hx
      subst hx
      simp only [hi]
      simpa using World.ownsRow_nil W' base TI sz
  · refine List.pairwise_append.2 ⟨h.sep, List.pairwise_singleton _ _, fun x _ y hy g _ => ?_⟩
    simp at hy
    subst hy
    simp [Value.ownBlock]

theorem flat_snoc_set (f : Es α → List Value) (l : List (Es α)) (x : Es α) (hf : ∀ y, (f y).length = 3) (j : Nat) (hj : j < 3) (u : Value) (y : Es α) (hy : f y = (f x).set j u) :
    ((l ++ [x]).flatMap f).set (l.length * 3 + j) u = (l ++ [y]).flatMap f := by
  have hl : (l.flatMap f).length = l.length * 3 := by
    induction l with
    | nil => simp
    | cons z l ih => simp [hf, ih]; omega
  simp only [List.flatMap_append, List.flatMap_cons, List.flatMap_nil, List.append_nil]
  rw [List.set_append_right _ _ (by rw [hl]; omega), hl, show l.length * 3 + j - l.length * 3 = j by omega, hy]

/-- A number of the last edit is stored (j = 0: at; j = 1: delete), or its slice. -/
theorem eds_store {g cap : Nat} {l : List (Es α)} {x y : Es α} (hv : v = .slice (some ⟨g, 0, none⟩) (l.length + 1) cap) (h : W.ownsRow base TE 3 v (l ++ [x]).length ((l ++ [x]).flatMap ec)) (j : Nat) (hj : j < 3) (u : Value) (hy : ec y = (ec x).set j u) :
    (W.setCell ⟨g, l.length * 3 + j, none⟩ u).ownsRow base TE 3 v (l ++ [y]).length ((l ++ [y]).flatMap ec) := by
  subst hv
  have hl : (l ++ [x]).length = l.length + 1 := by simp
  rw [hl] at h
  have h1 := (h.stored (l.length * 3 + j) u).1
  rw [flat_snoc_set ec l x ec_len j hj u y hy] at h1
  have hl2 : (l ++ [y]).length = l.length + 1 := by simp
  rw [hl2]
  exact h1

theorem grown_setCell (W : World) (b o : Nat) (u : Value) : W.grownBy (W.setCell ⟨b, o, none⟩ u) (some b) :=
  ⟨rfl, rfl, rfl, by simp, fun k _ hk => Below.heap_setCell _ _ _ k (fun e => hk (by rw [e]))⟩

/-- The last edit's count goes up. -/
theorem eds_del {g cap : Nat} {l : List (Es α)} {x : Es α} (hT : TE ≠ TI) (hv : v = .slice (some ⟨g, 0, none⟩) (l.length + 1) cap) (h : Eds TE TI sz cv base W v (l ++ [x])) (d : Int) :
    Eds TE TI sz cv base (W.setCell ⟨g, l.length * 3 + 1, none⟩ (.int .i64 d)) v (l ++ [⟨{ x.ed with del := d }, x.sl⟩]) := by
  have hg : v.ownBlock = some g := by subst hv; rfl
  refine ⟨eds_store hv h.own 1 (by decide) _ rfl, fun z hz => ?_, ?_⟩
  · have key : ∀ z' ∈ l ++ [x], (W.setCell ⟨g, l.length * 3 + 1, none⟩ (.int .i64 d)).ownsRow base TI sz z'.sl z'.ed.ins.length (z'.ed.ins.flatMap cv) := fun z' hz' => by
      refine (h.ins z' hz').kept (grown_setCell W g _ _) ?_
      cases hb : z'.sl.ownBlock with
      | none => exact .inl rfl
      | some g' => exact .inr (fun ee => eds_apart h hT hz' hg (hb.trans ee))
    rcases List.mem_append.1 hz with hz | hz
    · exact key z (by simp [hz])
    · simp at hz
      subst hz
      exact key x (by simp)
  · have hs := List.pairwise_append.1 h.sep
    refine List.pairwise_append.2 ⟨hs.1, List.pairwise_singleton _ _, fun a ha y hy => ?_⟩
    simp at hy
    subst hy
    exact hs.2.2 a ha x (by simp)

/-- The last edit inserts more: behind append's law on its own row (world W1), and the store of the new slice. -/
theorem eds_ins {g cap : Nat} {l : List (Es α)} {x : Es α} {u : Value} {more : List α} {W1 : World} (hT : TE ≠ TI) (hv : v = .slice (some ⟨g, 0, none⟩) (l.length + 1) cap) (h : Eds TE TI sz cv base W v (l ++ [x]))
    (hg1 : W.grownBy W1 x.sl.ownBlock) (hown : W1.ownsRow base TI sz u (x.ed.ins.length + more.length) (x.ed.ins.flatMap cv ++ more.flatMap cv)) (hnew : u.ownBlock = x.sl.ownBlock ∨ u.ownBlock = some W.heap.size) :
    Eds TE TI sz cv base (W1.setCell ⟨g, l.length * 3 + 2, none⟩ u) v (l ++ [⟨{ x.ed with ins := x.ed.ins ++ more }, u⟩]) := by
  have hg : v.ownBlock = some g := by subst hv; rfl
  have hs := List.pairwise_append.1 h.sep
  have hxg : x.sl.ownBlock ≠ some g := eds_apart h hT (by simp) hg
  have hgW : g < W.heap.size := (h.own.lt g hg).2
  have hug : u.ownBlock ≠ some g := by
    rcases hnew with e | e
    · rw [e]; exact hxg
    · rw [e]; intro ee; injection ee with ee; omega
  have own1 : W1.ownsRow base TE 3 v (l ++ [x]).length ((l ++ [x]).flatMap ec) := h.own.kept hg1 (.inr (by rw [hg]; exact fun e => hxg e.symm))
  have keep : ∀ z ∈ l, (W1.setCell ⟨g, l.length * 3 + 2, none⟩ u).ownsRow base TI sz z.sl z.ed.ins.length (z.ed.ins.flatMap cv) := fun z hz => by
    have k1 := (h.ins z (by simp [hz])).kept hg1 (by
      cases hb : z.sl.ownBlock with
      | none => exact .inl rfl
      | some g' => exact .inr (fun ee => hs.2.2 z hz x (by simp) g' hb ee.symm))
    refine k1.kept (grown_setCell W1 g _ _) ?_
    cases hb : z.sl.ownBlock with
    | none => exact .inl rfl
    | some g' => exact .inr (fun ee => eds_apart h hT (x := z) (by simp [hz]) hg (hb.trans ee))
  refine ⟨eds_store hv own1 2 (by decide) _ rfl, fun z hz => ?_, ?_⟩
  · rcases List.mem_append.1 hz with hz | hz
    · exact keep z hz
    · simp at hz
      subst hz
      have := hown.kept (grown_setCell W1 g (l.length * 3 + 2) u) (.inr hug)
      simpa using this
  · refine List.pairwise_append.2 ⟨hs.1, List.pairwise_singleton _ _, fun a ha y hy g' hga => ?_⟩
    simp at hy
    subst hy
    simp only
    rcases hnew with e | e
    · rw [e]; exact hs.2.2 a ha x (by simp) g' hga
    · rw [e]
      intro ee
      injection ee with ee
      have := ((h.ins a (by simp [ha])).lt g' hga).2
      omega
end E
end Go.Proofs.Yteakiielcmgkeaa
