/-
  New, Set and Resize return the results of the reference implementation: the statement 'TabstopEditsSaid'. No condition. By an AI agent.
-/
import Derived.Test.YteolkaheaaepiaaLaws3
import Derived.Lib.SmallJoins
import Derived.Test.YteolkaheaaepiaaOpen
namespace Go.Proofs.Yteolkaheaaepiaa.tabstopEdits
open Go.ChangeShapes Go.WideShapes Go.ChangeAt Go.RowKit
open Go.ChangeMaps (open_string shut_string)
set_option linter.unusedVariables false

set_option maxRecDepth 100000 in
theorem lifted (os : Os) (started : os.Started) (H : Type) (enc : TypeId × Value → H) :
    ReturnsInHanded {} Try.checked os 9 .any (Rows.tabstopEditsSpec.pre6 enc Try.prog Try.f9 Rows.tabstopEditsRow.domain false) (Rows.tabstopEditsSpec.post enc Try.prog Try.f9 false true false false) := by
  refine returnsInHanded_of_change_sized (C := Try.checked) own started (by kernel_rfl) Try.func9
    (ChangeSpec.witness6 (enc := enc) (C := Try.checked) false ⟨#[], #[.agg #[.slice none 0 0, .int .i64 0, .int .i64 0, .bool false]], []⟩ 8 (by kernel_rfl) (by kernel_rfl) (by kernel_rfl) (by kernel_rfl)) ?_
  intro W base args ds gs before hval0 hW _ hsz0 _
  have hsz : (DataW.weightsEach Try.prog (Try.f9.params.toList ++ Rows.tabstopEditsSpec.plain.varTypes Try.prog) (ds ++ gs)).all (· ≤ reachBytes) = true := hsz0
  have hval : ∀ (j : Nat) t v, Try.f9.params[j]? = some t → args[j]? = some v → Value.okWide Try.prog W .any base t v := hval0
  have hW' := hW
  obtain ⟨p, q, hA0, hV, rfl, hfz, hnd⟩ := hW
  have hA : DataW.TrodAll enc Try.prog W 0 (fun _ => true) true Try.f9.params.toList args.toList ds p := hA0
  obtain ⟨rfl, rfl⟩ := trodVars_none hV
  rw [Try.params9] at hA hval hsz
  obtain ⟨v0, vs0, d0, ds0, p0, q0, hargs, rfl, rfl, h0, r0⟩ := trodAll_cons hA
  obtain ⟨rfl, rfl, rfl⟩ := trodAll_nil r0
  obtain rfl : args = #[v0] := by cases args; simp_all
  obtain ⟨u0, u1, u2, u3, y0, y1, y2, y3, n, rfl, _, _, t0, t1, t2, t3⟩ := Joins.open_agg4 Try.underlying34 (by kernel_rfl) (by kernel_rfl) (hval 0 34 v0 rfl rfl) h0
  obtain ⟨A0, c0, ss0, e0, rd0, _, m0, _, _⟩ := trod_sl (α := Bool) (size := 1) (enc' := fun s => [.bool s]) (good := fun _ => True) Try.underlying22 (by kernel_rfl) (by decide) (fun n cs y hy _ => by
    obtain ⟨s, hs, _⟩ := DataW.trod_bool Try.underlying4 hy
    exact ⟨s, hs, trivial⟩) t0
  rw [flat_one] at rd0
  obtain ⟨x1, e1, _, _⟩ := DataW.trod_int Try.underlying3 t1
  obtain ⟨x2, e2, _, _⟩ := DataW.trod_int Try.underlying3 t2
  obtain ⟨x3, e3, _⟩ := DataW.trod_bool Try.underlying4 t3
  simp only [List.cons.injEq, and_true] at e0 e1 e2 e3
  subst e0 e1 e2 e3
  unfold maxLen at m0
  clear hA0 hval0
  refine (edits_any A0 c0 ss0 x1 x2 x3 W rd0 m0).mono fun e W' ⟨he, hb⟩ => ?_
  subst he
  refine ⟨_, rfl, law_post (tb := 4) laidOut hW' hb (by kernel_rfl) rfl (by kernel_rfl) Try.underlying4 ?_⟩
  intro ds' hl
  match ds', hl with
  | [_], _ => rfl

theorem holds : Rows.TabstopEditsSaid :=
  OpenClaim.holds_of_wide 9 Try.f9 rfl rfl rfl rfl rfl rfl rfl ⟨rfl, rfl, rfl, rfl, rfl⟩ rfl rfl rfl rfl rfl (by kernel_rfl) Try.func9 (by kernel_rfl)
    (of_decide_eq_true (by kernel_rfl)) (by unfold Func.isWrapper; first | (rw [if_pos (by decide +kernel)]; kernel_rfl) | (rw [if_neg (by decide +kernel)]; exact ⟨rfl, rfl⟩))
    (fun os started H enc _ => lifted os started H enc)
#print axioms holds
end Go.Proofs.Yteolkaheaaepiaa.tabstopEdits
