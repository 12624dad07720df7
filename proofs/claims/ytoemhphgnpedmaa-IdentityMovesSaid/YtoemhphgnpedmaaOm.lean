/-
  Tables in rows of the call's own (asg's, turned); an own row known by the index. By an AI agent.
-/
import Derived.Deep.OwnRows
import Derived.Test.YtoemhphgnpedmaaOmt
namespace Go.Proofs.Ytoemhphgnpedmaa
open Go.RowKit

/-- A table of the call's own: rows in blocks of their own. -/
structure C.Om (w : World) (base : Nat) (v : Value) (rs : List (Option Addr × Nat × List Int)) : Prop where
  out : w.ownsRow base 32 1 v rs.length (rs.map C.slv)
  row : ∀ r ∈ rs, w.ownsRow base 3 1 (C.slv r) r.2.2.length (C.ns r.2.2)
  dis : rs.Pairwise fun r s => (C.slv r).ownBlock ≠ (C.slv s).ownBlock
  dio : ∀ r ∈ rs, (C.slv r).ownBlock ≠ v.ownBlock
  ne : ∀ r ∈ rs, (C.slv r).ownBlock ≠ none
theorem C.Om.under {w w' : World} {base : Nat} {v : Value} {rs : List (Option Addr × Nat × List Int)} (h : C.Om w base v rs) (hb : Below w.heap.size w w') : C.Om w' base v rs :=
  ⟨own_under h.out hb, fun r hr => own_under (h.row r hr) hb, h.dis, h.dio, h.ne⟩
theorem C.Om.mx {w : World} {base : Nat} {v : Value} {rs : List (Option Addr × Nat × List Int)} (h : C.Om w base v rs) (hl : rs.length ≤ maxLen) (hr : ∀ r ∈ rs, r.2.2.length ≤ maxLen) : ∃ A c, v = .slice A rs.length c ∧ C.Mx w w.heap.size A rs := by
  obtain ⟨A, c, hv, hrd⟩ := own_reads h.out
  refine ⟨A, c, hv, hrd, fun r hr' => ⟨?_, hr r hr'⟩, hl⟩
  obtain ⟨A', c', hv', hrd'⟩ := own_reads (h.row r hr')
  have : r.1 = A' := by unfold C.slv at hv'; injection hv'
  rw [this]; exact hrd'
theorem C.Om.push {wr w3 W4 : World} {base : Nat} {vo vo' : Value} {rs : List (Option Addr × Nat × List Int)} {r0 : Option Addr × Nat × List Int} (h : C.Om wr base vo rs) (hbase : base ≤ wr.heap.size) (hb : Below wr.heap.size wr w3)
    (hrow : w3.ownsRow wr.heap.size 3 1 (C.slv r0) r0.2.2.length (C.ns r0.2.2)) (hne : (C.slv r0).ownBlock ≠ none)
    (hown : W4.ownsRow base 32 1 vo' (rs.length + 1) (rs.map C.slv ++ [C.slv r0])) (hg : (w3.alloc (.cells #[C.slv r0] 32)).grownBy W4 vo.ownBlock) (hnew : vo'.ownBlock = vo.ownBlock ∨ vo'.ownBlock = some (w3.alloc (.cells #[C.slv r0] 32)).heap.size) :
    C.Om W4 base vo' (rs ++ [r0]) := by
  have lo : ∀ r ∈ rs, ∀ g, (C.slv r).ownBlock = some g → g < wr.heap.size := fun r hr g e => ((h.row r hr).lt g e).2
  have vlo : ∀ g, vo.ownBlock = some g → g < wr.heap.size := fun g e => (h.out.lt g e).2
  have nhi : ∀ g, (C.slv r0).ownBlock = some g → wr.heap.size ≤ g ∧ g < w3.heap.size := fun g e => hrow.lt g e
  have hne0 : (C.slv r0).ownBlock ≠ vo.ownBlock := by
    intro e
    cases hv : vo.ownBlock with
    | none => exact hne (e.trans hv)
    | some g => have h1 := vlo g hv; have h2 := nhi g (e.trans hv); omega
  have keep : ∀ {r : Option Addr × Nat × List Int} {b : Nat}, w3.ownsRow b 3 1 (C.slv r) r.2.2.length (C.ns r.2.2) → (C.slv r).ownBlock ≠ vo.ownBlock → W4.ownsRow b 3 1 (C.slv r) r.2.2.length (C.ns r.2.2) := fun h1 h2 => (h1.alloc _).kept hg (.inr h2)
  refine ⟨by simpa using hown, fun r hr => ?_, ?_, fun r hr => ?_, fun r hr => ?_⟩
  · rcases List.mem_append.1 hr with hr | hr
    · exact keep (own_under (h.row r hr) hb) (h.dio r hr)
    · simp only [List.mem_cons, List.not_mem_nil, or_false] at hr
      subst hr
      exact keep (own_mono hrow hbase) hne0
  · rw [List.pairwise_append]
    refine ⟨h.dis, by simp, fun r hr s hs e => ?_⟩
    simp only [List.mem_cons, List.not_mem_nil, or_false] at hs
    subst hs
    cases hv : (C.slv s).ownBlock with
    | none => exact hne hv
    | some g => have h1 := lo r hr g (e.trans hv); have h2 := nhi g hv; omega
  · have lt3 : ∀ g, (C.slv r).ownBlock = some g → g < w3.heap.size := fun g e => by
      rcases List.mem_append.1 hr with hr | hr
      · have := lo r hr g e; have := hb.size; omega
      · simp only [List.mem_cons, List.not_mem_nil, or_false] at hr
        subst hr; exact (nhi g e).2
    rcases hnew with e | e
    · rw [e]
      rcases List.mem_append.1 hr with hr | hr
      · exact h.dio r hr
      · simp only [List.mem_cons, List.not_mem_nil, or_false] at hr
        subst hr; exact hne0
    · rw [e]
      intro e2
      have := lt3 _ e2
      simp at this
      omega
  · rcases List.mem_append.1 hr with hr | hr
    · exact h.ne r hr
    · simp only [List.mem_cons, List.not_mem_nil, or_false] at hr
      subst hr; exact hne
theorem C.Om.start (w : World) (base : Nat) (hb : base ≤ w.heap.size) : C.Om (w.alloc (.cells #[] 32)) base (.slice (some ⟨w.heap.size, 0, none⟩) 0 0) [] :=
  ⟨World.ownsRow_lit (base := base) (e := 32) (size := 1) w #[] 0 hb (by decide) rfl, fun r h => absurd h (by simp), List.Pairwise.nil, fun r h => absurd h (by simp), fun r h => absurd h (by simp)⟩

theorem C.Om.nil (w : World) (base : Nat) : C.Om w base (.slice none 0 0) [] :=
  ⟨World.ownsRow_nil _ _ _ _, fun r h => absurd h (by simp), List.Pairwise.nil, fun r h => absurd h (by simp), fun r h => absurd h (by simp)⟩
theorem own_of_rowIs {w : World} {b n base : Nat} {t : TypeId} {f : Nat → Value} (h : w.rowIs b t n f) (hb : base ≤ b) (hn : n ≤ maxLen) : w.ownsRow base t 1 (.slice (some ⟨b, 0, none⟩) n n) n ((List.range n).map f) := by
  obtain ⟨c, hc, hs, hf⟩ := h
  refine ⟨by simp, .inr ⟨b, n, c, rfl, hb, hc, Nat.le_refl _, hn, by simp [hs], ?_⟩⟩
  apply List.ext_getElem?
  intro j
  by_cases hj : j < n
  · have := hf j hj
    rw [List.getElem?_take]
    simp [hj, this]
  · rw [List.getElem?_take]
    simp [hj]
theorem rowIs_below {w w' : World} {b n B : Nat} {t : TypeId} {f : Nat → Value} (h : w.rowIs b t n f) (hb : Below B w w') (hB : b < B) : w'.rowIs b t n f := h.of_block (hb.block b hB)
end Go.Proofs.Ytoemhphgnpedmaa
