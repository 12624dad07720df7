/-
  EditscriptRenamed returns true for every input: the statement 'EditscriptRenamedSaid'. No condition. By an AI agent.
-/
import Derived.Test.YtpigimmgadcogaaRnm
import Derived.Test.YtpigimmgadcogaaOpen
namespace Go.Proofs.Ytpigimmgadcogaa.editscriptRenamed
open Go.ChangeShapes Go.WideShapes Go.ChangeAt Go.RowKit
open Go.ChangeMaps (open_string shut_string)
set_option linter.unusedVariables false

set_option maxRecDepth 100000 in
theorem lifted (os : Os) (started : os.Started) (H : Type) (enc : TypeId × Value → H) :
    ReturnsInHanded {} Try.checked os 7 .any (Rows.editscriptRenamedSpec.pre6 enc Try.prog Try.f7 Rows.editscriptRenamedRow.domain false) (Rows.editscriptRenamedSpec.post enc Try.prog Try.f7 false true false false) := by
  refine returnsInHanded_of_change_sized (C := Try.checked) own started (by kernel_rfl) Try.func7
    (ChangeSpec.witness6 (enc := enc) (C := Try.checked) false ⟨#[], #[.slice none 0 0, .slice none 0 0], []⟩ 8 (by kernel_rfl) (by kernel_rfl) (by kernel_rfl) (by kernel_rfl)) ?_
  intro W base args ds gs before hval0 hW _ hsz0 _
  have hsz : (DataW.weightsEach Try.prog (Try.f7.params.toList ++ Rows.editscriptRenamedSpec.plain.varTypes Try.prog) (ds ++ gs)).all (· ≤ reachBytes) = true := hsz0
  have hval : ∀ (j : Nat) t v, Try.f7.params[j]? = some t → args[j]? = some v → Value.okWide Try.prog W .any base t v := hval0
  have hW' := hW
  obtain ⟨p, q, hA0, hV, rfl, hfz, hnd⟩ := hW
  have hA : DataW.TrodAll enc Try.prog W 0 (fun _ => true) true Try.f7.params.toList args.toList ds p := hA0
  obtain ⟨rfl, rfl⟩ := trodVars_none hV
  rw [Try.params7] at hA hval hsz
  obtain ⟨v0, vs0, d0, ds0, p0, q0, hargs, rfl, rfl, h0, r0⟩ := trodAll_cons hA
  obtain ⟨v1, vs1, d1, ds1, p1, q1, rfl, rfl, rfl, h1, r1⟩ := trodAll_cons r0
  obtain ⟨rfl, rfl, rfl⟩ := trodAll_nil r1
  obtain rfl : args = #[v0, v1] := by cases args; simp_all
  have z0 := sized_len hsz (j := 0) rfl rfl Try.underlying39
  obtain ⟨A0, c0, ss0, rfl, rd0, sm0, _, ln0, _⟩ := open_nums Try.underlying39 Try.underlying5 (by kernel_rfl) (hval 0 39 v0 rfl rfl) h0
  rw [← ln0, show Try.prog.bytesOf 5 = 1 from by kernel_rfl] at z0
  have y0 : ss0.length ≤ 140737488351232 := by unfold reachBytes at z0; omega
  have z1 := sized_len hsz (j := 1) rfl rfl Try.underlying39
  obtain ⟨A1, c1, ss1, rfl, rd1, sm1, _, ln1, _⟩ := open_nums Try.underlying39 Try.underlying5 (by kernel_rfl) (hval 1 39 v1 rfl rfl) h1
  rw [← ln1, show Try.prog.bytesOf 5 = 1 from by kernel_rfl] at z1
  have y1 : ss1.length ≤ 140737488351232 := by unfold reachBytes at z1; omega
  clear hA0 hval0
  refine (renamed_any A0 c0 ss0 A1 c1 ss1 W rd0 sm0 y0 rd1 sm1 y1).mono fun e W' ⟨he, hb⟩ => ?_
  subst he
  refine ⟨_, rfl, law_post (tb := 4) laidOut hW' hb (by kernel_rfl) rfl (by kernel_rfl) Try.underlying4 ?_⟩
  intro ds' hl
  match ds', hl with
  | [_, _], _ => rfl

theorem holds : Rows.EditscriptRenamedSaid :=
  OpenClaim.holds_of_wide 7 Try.f7 rfl rfl rfl rfl rfl rfl rfl ⟨rfl, rfl, rfl, rfl, rfl⟩ rfl rfl rfl rfl rfl (by kernel_rfl) Try.func7 (by kernel_rfl)
    (of_decide_eq_true (by kernel_rfl)) (by unfold Func.isWrapper; first | (rw [if_pos (by decide +kernel)]; kernel_rfl) | (rw [if_neg (by decide +kernel)]; exact ⟨rfl, rfl⟩))
    (fun os started H enc _ => lifted os started H enc)
#print axioms holds
end Go.Proofs.Ytpigimmgadcogaa.editscriptRenamed
