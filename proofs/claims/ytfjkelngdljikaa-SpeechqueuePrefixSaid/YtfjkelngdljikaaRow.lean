/-
  The row's step, over whatever law that answers true and turns nothing that was there: off 'Below' alone, any number of parameters. By an AI agent.
-/
import Derived.ProofKit
import Derived.OpenShut
import Derived.ChangeOld
import Derived.SizedLaws
import Derived.Deep.CondSized
import Derived.Test.YtfjkelngdljikaaRows
import Derived.Test.YtfjkelngdljikaaBase
namespace Go.Proofs.Ytfjkelngdljikaa
open Go.ChangeShapes Go.WideShapes Go.ChangeAt Go.RowKit

theorem own : ownKnob Try.prog.godebug = none := by kernel_rfl
theorem laidOut : laidOutB Try.prog = true := by kernel_rfl

/-- Every parameter's type can be read and lies in the table. -/
def parsOk (P : Program) (ts : List TypeId) : Bool := ts.all fun t => P.readableRec t && decide (t < P.types.size)

theorem trodAll_below {P : Program} (hl : laidOutB P = true) {H : Type} {enc : TypeId × Value → H} {W W' : World} (hb : Below W.heap.size W W') : ∀ {ts : List TypeId} {vs : List Value} {ds : List (DataW H)} {ps : List MemPlace}, parsOk P ts = true →
    DataW.TrodAll enc P W 0 (fun _ => true) true ts vs ds ps → DataW.TrodAll enc P W' 0 (fun b => decide (b < W.heap.size)) true ts vs ds ps
  | [], [], [], _, _, h => h
  | t :: ts, _ :: _, _ :: _, _, ho, ⟨p, q, h1, h2, e⟩ => by
    simp only [parsOk, List.all_cons, Bool.and_eq_true, decide_eq_true_eq] at ho
    refine ⟨p, q, Below.trod hl ho.1.1 ho.1.2 h1 hb ?_, trodAll_below hl hb (by simpa [parsOk] using ho.2) h2, e⟩
    obtain ⟨m, hm⟩ := h1
    exact DataW.trod_lt m _ _ _ hm

/-- The law's post, off 'Below'. -/
theorem law_post {P : Program} (hlo : laidOutB P = true) {H : Type} {enc : TypeId × Value → H} {f : Func} {s : ChangeSpec} {W W' : World} {args : Array Value} {ds gs : List (DataW H)} {before : List MemPlace} {tb : TypeId}
    (hW : DataW.Whole enc P f.params.toList s.vars false W args.toList ds gs before) (hb : Below W.heap.size W W') (hp : parsOk P f.params.toList = true)
    (hv : s.vars = []) (hr : f.resultTypes = #[tb]) (ht : P.underlying tb = some .bool)
    (hs : ∀ ds' : List (DataW H), ds'.length = f.params.size → s.fn H ds' = { results := [.lit (.bool true)], args := ds' }) :
    s.post enc P f false true false false W args (.bool true) W' := by
  have hW' := hW
  obtain ⟨p, q, hA, hV, rfl, hfz, hnd⟩ := hW
  rw [hv] at hV
  obtain ⟨rfl, rfl⟩ := trodVars_none hV
  have hlen : ∀ (ts : List TypeId) (vs : List Value) (ds : List (DataW H)) (ps : List MemPlace), DataW.TrodAll enc P W 0 (fun _ => true) true ts vs ds ps → ds.length = ts.length := by
    intro ts
    induction ts with
    | nil => intro vs ds ps h; cases vs <;> cases ds <;> simp_all [DataW.TrodAll]
    | cons t ts ih =>
      intro vs ds ps h
      cases vs with
      | nil => cases ds <;> simp [DataW.TrodAll] at h
      | cons v vs =>
        cases ds with
        | nil => simp [DataW.TrodAll] at h
        | cons d ds =>
          obtain ⟨_, q, _, h2, _⟩ := h
          simp [ih _ _ _ h2]
  have hl := hlen _ _ _ _ hA
  have hf := hs (ds ++ []) (by simpa using hl)
  refine ⟨ds, [], _, [], p, [], hW', ?_, ?_, ?_, ?_, fun h => by cases h⟩
  · rw [hf, hr]
    exact trodAll_mk1 (shut_bool ht _)
  · rw [hf]
    simpa using trodAll_below hlo hb hp hA
  · rw [hf, hv]; rfl
  · exact hb.frame _
end Go.Proofs.Ytfjkelngdljikaa
