/-
  The plain mathematics of layer 18: the law's own example. By an AI agent.
-/
import Derived.Test.YthohninbelhddaaOf
namespace Go.Proofs.Ythohninbelhddaa

def C.sA : ByteArray := ⟨#[97, 98, 99]⟩
def C.sB : ByteArray := ⟨#[98, 99, 100]⟩
def C.aw3 (k : Int) (t e : Int) : Int := V.gain [[(1 : Nat)], [2], [3]] [[2], [3], [4]] t e k
theorem C.awA : C.ofl C.sA 3 = [[⟨⟨#[97]⟩, false, 0⟩], [⟨⟨#[98]⟩, false, 0⟩], [⟨⟨#[99]⟩, false, 0⟩]] := by rfl
theorem C.awB : C.ofl C.sB 3 = [[⟨⟨#[98]⟩, false, 0⟩], [⟨⟨#[99]⟩, false, 0⟩], [⟨⟨#[100]⟩, false, 0⟩]] := by rfl
theorem C.aw_gain (c : V.Sc) (h : V.All 3 c) : V.gain (C.ofl C.sA 3) (C.ofl C.sB 3) c.t c.e c.k ≤ 2 ∧ (V.gain (C.ofl C.sA 3) (C.ofl C.sB 3) c.t c.e c.k = 2 → c = ⟨0, 3, 1⟩) := by
  obtain ⟨t, e, k⟩ := c
  unfold V.All V.poss at h
  simp only at h ⊢
  have hc : (t = 0 ∧ e = 2 ∧ k = 1) ∨ (t = 0 ∧ e = 2 ∧ k = -1) ∨ (t = 1 ∧ e = 3 ∧ k = 1) ∨ (t = 1 ∧ e = 3 ∧ k = -1) ∨ (t = 0 ∧ e = 3 ∧ k = 1) ∨ (t = 0 ∧ e = 3 ∧ k = -1) ∨ (t = 0 ∧ e = 3 ∧ k = 2) ∨ (t = 0 ∧ e = 3 ∧ k = -2) := by omega
  rcases hc with ⟨rfl, rfl, rfl⟩ | ⟨rfl, rfl, rfl⟩ | ⟨rfl, rfl, rfl⟩ | ⟨rfl, rfl, rfl⟩ | ⟨rfl, rfl, rfl⟩ | ⟨rfl, rfl, rfl⟩ | ⟨rfl, rfl, rfl⟩ | ⟨rfl, rfl, rfl⟩ <;> rw [C.awA, C.awB] <;> decide
theorem C.aw_two : V.gain (C.ofl C.sA 3) (C.ofl C.sB 3) 0 3 1 = 2 := by
  rw [C.awA, C.awB]; decide
theorem C.aw_best {o : Option V.Sc} (h : V.Best (fun c => V.gain (C.ofl C.sA 3) (C.ofl C.sB 3) c.t c.e c.k) (V.All 3) o) : o = some ⟨0, 3, 1⟩ := by
  have h1 : V.All 3 ⟨0, 3, 1⟩ := by unfold V.All V.poss; simp
  refine V.best_unique _ h (m' := some ⟨0, 3, 1⟩) ⟨h1, ?_, fun c hc => ?_⟩
  · show 2 ≤ V.gain (C.ofl C.sA 3) (C.ofl C.sB 3) 0 3 1
    rw [C.aw_two]; decide
  · have h2 := C.aw_gain c hc
    by_cases he : V.gain (C.ofl C.sA 3) (C.ofl C.sB 3) c.t c.e c.k = 2
    · exact .inl (h2.2 he)
    · right; left
      show V.gain (C.ofl C.sA 3) (C.ofl C.sB 3) c.t c.e c.k < V.gain (C.ofl C.sA 3) (C.ofl C.sB 3) 0 3 1
      rw [C.aw_two]; omega
end Go.Proofs.Ythohninbelhddaa
