/-
  A drawn region by hand: one operation taken first, short to type. By an AI agent.
-/
import Derived.Deep.RegionHeld
namespace Go.Proofs.Ytfjkelngdljikaa
section
variable {P : Program} {md : Region.Mode} {ops : Array Oper} {Q : Exit → Act → World → Prop} {S : World → Prop} {fuel : Nat} {listed : Array Bool} {a : Act} {w : World}
/-- Operation i is wanted and yields v in every world that meets S. -/
theorem tk (i : Nat) {oi : Oper} {v : Value} (hi : ops[i]? = some oi) (hc : (Region.noSelect ops && (Region.free md ops listed i && ((Region.ready md ops listed).contains i && Region.wanted oi (yielded ops a.tmps)))) = true)
    (hS : S w) (hQ : ∀ c a w, Q (.panic c) (a.put oi.dst v) w → Q (.panic c) a w) (hy : ∀ w, S w → (execOp a.eval oi).run P w = .ok (.value v) w)
    (h : wpAnyH P md ops Q S fuel (listed.setIfInBounds i true) (a.put oi.dst v) w) : wpAnyH P md ops Q S (fuel + 1) listed a w := by
  simp only [Bool.and_eq_true] at hc
  exact wpAnyH_take hi hc.1 hc.2.1 hc.2.2.1 hQ (Or.inl ⟨hc.2.2.2, hy⟩) hS h
/-- Operation i is not wanted. -/
theorem sk (i : Nat) {oi : Oper} (hi : ops[i]? = some oi) (hc : (Region.noSelect ops && (Region.free md ops listed i && ((Region.ready md ops listed).contains i && !Region.wanted oi (yielded ops a.tmps)))) = true)
    (hS : S w) (hQ : ∀ c a w, Q (.panic c) (a.put oi.dst undef) w → Q (.panic c) a w)
    (h : wpAnyH P md ops Q S fuel (listed.setIfInBounds i true) (a.put oi.dst undef) w) : wpAnyH P md ops Q S (fuel + 1) listed a w := by
  simp only [Bool.and_eq_true, Bool.not_eq_true'] at hc
  exact wpAnyH_take hi hc.1 hc.2.1 hc.2.2.1 hQ (Or.inr ⟨hc.2.2.2, rfl⟩) hS h
end
end Go.Proofs.Ytfjkelngdljikaa
