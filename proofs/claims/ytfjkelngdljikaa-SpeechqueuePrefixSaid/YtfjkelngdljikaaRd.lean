/-
  A drawn region in a round of a range over a function: walked as one outside of it. By an AI agent.
-/
import Derived.RangeFuncNested
import Derived.RangeFuncCalls
import Derived.OwnWalkIn
import Derived.TacticsIn
import Derived.OrdersIn
import Derived.Deep.RegionHeld
namespace Go.Proofs.Ytfjkelngdljikaa
set_option linter.unusedVariables false
open Go.RowKit

section
variable {P : Program} {n l : Nat} {ops : Array Oper} {Q : Exit → Act → World → Prop} {md : Region.Mode}

theorem rowsIn_of_rows {row : String} {args : Array Value} {w : World} {R : Value → World → Prop} (h : Rows P row args w R) : RowsIn (Fence.wide.inRound l) n P row args w R := fun c cs _ => by
  obtain ⟨v, w', r, s⟩ := h c cs
  exact ⟨v, w', r, stepsIn_wide.2 s⟩

theorem operIn_of_plain {o : Oper} {a : Act} {w : World} {K : Act → World → Prop} (hd : ∀ c, o.op ≠ .defer c) (h : o.wp P a w K Q) : o.wpIn (Fence.wide.inRound l) n P a w K Q := by
  unfold Oper.wpIn
  refine ⟨fun _ _ => trivial, ?_⟩
  rw [Fence.inRound_round, Oper.semAt_some l _ _ hd]
  unfold Oper.wp at h
  generalize (execOp a.eval o).run P w = r at *
  cases r with
  | ok x w' =>
    cases x with
    | value v => exact h
    | skip => exact h
    | defer d => exact h
    | enter f args => exact ⟨fun hh => (by cases hh), CallsIn.inRound l ((callsIn_wide (n := n - 1)).2 h)⟩
    | row row args => exact ⟨fun hh => (by cases hh), rowsIn_of_rows h⟩
    | round _ _ _ _ _ => exact h.elim
    | _ => exact h.elim
  | halt x w' => cases x <;> first | exact h | exact h.elim

theorem anyIn_of_any (hd : ops.all (fun o => match o.op with | .defer _ => false | _ => true) = true) (hL : ∀ a w, Q .outgrown a w → False) : ∀ (fuel : Nat) (listed : Array Bool) (a : Act) (w : World), wpAny P md ops Q fuel listed a w → wpAnyIn (Fence.wide.inRound l) n P md ops Q fuel listed a w := by
  intro fuel
  induction fuel with
  | zero => exact fun listed a w h => h
  | succ fuel ih =>
    intro listed a w h
    refine ⟨h.1, fun i hi => ?_⟩
    have hh := h.2 i hi
    unfold wpOp at hh
    unfold wpOpIn
    cases ho : ops[i]? with
    | none => rw [ho] at hh; exact ih _ _ _ hh
    | some o =>
      rw [ho] at hh
      have hd' : ∀ c, o.op ≠ .defer c := fun c e => by
        obtain ⟨hlt, hoi⟩ := Array.getElem?_eq_some_iff.1 ho
        have := Array.all_eq_true.1 hd i hlt
        rw [hoi, e] at this
        cases this
      by_cases hw : Region.wanted o (yielded ops a.tmps) = true
      · simp only [hw, if_true] at hh ⊢
        refine Oper.wpIn_mono (fun a w => ih _ a w) (operIn_of_plain hd' ?_)
        rcases hh with hh | ⟨_, a', w', hq⟩
        · exact hh
        · exact (hL _ _ hq).elim
      · simp only [hw, if_false] at hh ⊢
        exact ⟨fun _ _ => trivial, ih _ _ _ hh⟩

theorem region_held_round {id : Nat} {a : Act} {w : World} {S : World → Prop} (hm : P.follows .mixedOrders = true) (hd : ops.all (fun o => match o.op with | .defer _ => false | _ => true) = true) (hL : ∀ a w, Q .outgrown a w → False) (hS : S w.drew)
    (h : S w.drew → wpAnyH P .any ops Q S ops.size (Array.replicate ops.size false) a w.drew) : (Code.region id ops true).wpIn (Fence.wide.inRound l) n P Q a w :=
  wpIn_region_any hm (anyIn_of_any hd hL _ _ _ _ (wpAny_of_held _ _ _ _ (h hS)))
end
end Go.Proofs.Ytfjkelngdljikaa
