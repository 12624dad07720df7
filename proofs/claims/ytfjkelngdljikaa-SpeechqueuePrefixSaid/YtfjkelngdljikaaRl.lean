/-
  A range over an iterator that keeps a variable of its own in memory (no early exit). By an AI agent.
-/
import Derived.RangeFuncNested
import Derived.RangeFuncCalls
namespace Go.Proofs.Ytfjkelngdljikaa
set_option linter.unusedVariables false
open Go.RowKit

variable {F : Fence} {n : Nat} {P : Program} {α : Type}

/-- What an iterator does that writes, of the blocks that lay, Bq alone, and gives ys: for every J that abides that. -/
def Gives (F : Fence) (n : Nat) (P : Program) (gf : Nat) (lb : Array Value) (encs : α → Array Value) (ys : List α) (Bq : Nat) (Kp : World → World → Prop) (w : World) : Prop :=
  ∀ (l : Nat) (J : List α → World → Prop) (W : World), Below w.heap.size w W →
    (∀ s A B row, J s A → A.grownBy B row → (∀ r, row = some r → r = Bq) → J s B) →
    (∀ pre x post W1, ys = pre ++ x :: post → J pre W1 → YieldAt F (n - 1) P l (encs x) W1 fun e W' => e = .returned (.bool true) ∧ J (pre ++ [x]) W' ∧ Kp W1 W') →
    J [] W → CallsIn F n P gf (#[.func (.yield l) #[] #[]] ++ lb) W fun e W' => (∃ v, e = .returned v) ∧ J ys W'

theorem range_cells {g : Operand} {ps : Array Tmp} {assign body : Code} {Q : Exit → Act → World → Prop} {a : Act} {w : World}
    (hro : F.round = none) (h1 : 1 ≤ n) {gf : Nat} {lb : Array Value} (hg : a.eval g = .func (.func gf) #[] lb) (hFg : F.fn gf) (eg : ∀ args w, (callFunc gf args).run P w = .ok (.enter gf args) w)
    (encs : α → Array Value) (hps : ∀ x, (encs x).size = ps.size) (ys : List α) (Bq : Nat) (hBq : Bq < w.heap.size) (Kp : World → World → Prop)
    (hKt : ∀ A B C : World, Kp A B → Kp B C → Kp A C) (hKb : ∀ (W : World) (l : Nat) (o o' : Obj), w.heap.size ≤ l → W.heap[l]? = some o → o.isCells = false → Kp W (W.putObj l o'))
    (hseq : Gives F (n - 1) P gf lb encs ys Bq Kp w)
    (I : List α → World → Prop)
    (hI : ∀ s A B row, I s A → A.grownBy B row → (∀ r, row = some r → r = Bq ∨ (w.heap.size ≤ r ∧ ∃ o : Obj, A.heap[r]? = some o ∧ o.isCells = false)) → I s B)
    (h0 : I [] w)
    (Ax : α → Act → World → Prop) (hAx : ∀ x a', OwnFrom w.heap.size (fun (_ : Unit) W => Ax x a' W))
    (hassign : ∀ (l : Nat) (pre : List α) (x : α) (W : World) (K : Act → World → Prop), I pre W → (∀ a' W', KeepsFrom w.heap.size W W' → Kp W W' → I pre W' → Ax x a' W' → K a' W') →
      assign.wpIn (F.inRound l) (n - 1 - 1) P (Exit.then K (fun _ _ _ => False)) { tmps := (ps.zip (encs x)).foldl (fun t (p, v) => t.setIfInBounds p v) a.tmps, defers := [] } W)
    (hbody : ∀ (l : Nat) (pre : List α) (x : α) (post : List α) (a' : Act) (W : World), w.heap.size ≤ l → ys = pre ++ x :: post → I pre W → Ax x a' W →
      body.wpIn (F.inRound l) (n - 1 - 1) P (ownPostG w.heap.size Kp I (fun _ _ _ => False) (pre ++ [x]) W) a' W)
    (hdone : ∀ (D : Nat) (W : World), w.heap.size ≤ D → I ys W → W.heap[D]? = some (.deferred (some [])) → Q .normal { a with defers := { target := .collected D, args := #[] } :: a.defers } W) :
    (Code.rangeFunc g ps assign body).wpIn F n P Q a w := by
  have put : ∀ (s : List α) (W : World) (l : Nat) (o o' : Obj), I s W → w.heap.size ≤ l → W.heap[l]? = some o → o.isCells = false → I s (W.putObj l o') :=
    fun s W l o o' hs hl ho hc => hI s W _ (some l) hs (grownBy_putObj' W l o') (fun r e => by cases e; exact .inr ⟨hl, o, ho, hc⟩)
  have new : ∀ (s : List α) (W : World) (o : Obj), I s W → I s (W.alloc o) := fun s W o hs => hI s W _ none hs (World.grownBy_alloc W o none) (fun r e => by cases e)
  refine wpIn_rangeFunc ?_
  intro fn hfn
  rw [hro]
  -- the record, by its state
  obtain ⟨R, hR⟩ : ∃ R : LoopState → Loop, R = fun st => { state := st, pending := none, fn, tmps := a.tmps, params := ps, assign, body, defers := w.heap.size } := ⟨_, rfl⟩
  obtain ⟨V, hV⟩ : ∃ V, (w.alloc (.deferred (some []))).alloc (.loop (R .ready)) = V := ⟨_, rfl⟩
  have vL : V.heap[w.heap.size + 1]? = some (.loop (R .ready)) := by
    have := World.alloc_heap_new (w.alloc (.deferred (some []))) (.loop (R .ready))
    rw [World.size_alloc, hV] at this
    exact this
  have vD : V.heap[w.heap.size]? = some (.deferred (some [])) := by
    rw [← hV]; exact (Below.heap_alloc _ _ _ (by simp)).trans (World.alloc_heap_new w _)
  have vI : I [] V := by rw [← hV]; exact new _ _ _ (new _ _ _ h0)
  have vB : Below w.heap.size w V := by rw [← hV]; exact ((Below.refl _ w).alloc (Nat.le_refl _) _).alloc (by simp) _
  -- a step that turns the iterator's variable alone keeps the record
  have far : ∀ (A B : World) (row : Option Nat) (k : Nat) (o : Obj), A.grownBy B row → (∀ r, row = some r → r = Bq) → w.heap.size ≤ k → A.heap[k]? = some o → B.heap[k]? = some o :=
    fun A B row k o hg' hr hk ho => (hg'.block k (Array.getElem?_eq_some_iff.1 ho).1 (fun e => by have := hr k e.symm; omega)).trans ho
  refine ⟨w.heap.size + 1, [{ target := .collected w.heap.size, args := #[] }], V, { target := .fn (.func gf) lb, args := #[.func (.yield (w.heap.size + 1)) #[] #[]] }, V, gf,
    #[.func (.yield (w.heap.size + 1)) #[] #[]] ++ lb, V, ?_, ?_, ?_, ?_, fun _ => h1, ?_⟩
  · rw [← hV, hR]; exact run_enterLoop_outer _ _ _ _ _
  · simp only [resolve, hg]
    simp [go_sem]
  · intro f' hf'; simp [Target.leads] at hf'; subst hf'; exact hFg
  · simp [invoke, go_sem, eg]
  · refine (hseq (w.heap.size + 1) (fun pre W => I pre W ∧ W.heap[w.heap.size + 1]? = some (.loop (R .ready)) ∧ W.heap[w.heap.size]? = some (.deferred (some []))) V vB
      (fun s A B row hs hg' hr => ⟨hI s A B row hs.1 hg' (fun r e => .inl (hr r e)), far A B row _ _ hg' hr (by omega) hs.2.1, far A B row _ _ hg' hr (Nat.le_refl _) hs.2.2⟩)
      ?_ ⟨vI, vL, vD⟩).mono ?_
    · -- a round
      rintro pre x post W hys ⟨hi, hl, hk⟩
      have hy := run_yield (P := P) (args := encs x) hl (by rw [hR]; exact hps x)
      rw [hR] at hy
      refine ⟨fn, _, assign, body, hy, roundIn_of_wpIn hfn (hassign _ pre x W _ hi ?_)⟩
      clear hy
      intro a' Wa kf kp hia hax
      have hla := kf.same _ _ (Nat.le_succ _) hl rfl
      have hka := kf.same _ _ (Nat.le_refl _) hk rfl
      have lt : w.heap.size + 1 < Wa.heap.size := (Array.getElem?_eq_some_iff.1 hla).1
      refine ⟨_, run_beginRound hla (by rw [hR]), ?_⟩
      have ebusy : ({ R .ready with state := .busy } : Loop) = R .busy := by rw [hR]
      rw [ebusy]
      have hlb : (Wa.putObj (w.heap.size + 1) (.loop (R .busy))).heap[w.heap.size + 1]? = some (.loop (R .busy)) := World.putObj_heap_same lt
      have hkb : (Wa.putObj (w.heap.size + 1) (.loop (R .busy))).heap[w.heap.size]? = some (.deferred (some [])) := (World.putObj_heap_other (by omega)).trans hka
      refine wpIn_mono (hbody _ pre x post a' _ (Nat.le_succ _) hys (put _ _ _ _ _ hia (Nat.le_succ _) hla rfl) ((hAx x a').putObj (s := ()) _ hax (Nat.le_succ _) hla rfl)) ?_
      rintro e a3 W3 hp
      cases e with
      | normal =>
        obtain ⟨k3, kp3, i3⟩ := hp
        have hl3 := k3.same _ _ (Nat.le_succ _) hlb rfl
        have hk3 := k3.same _ _ (Nat.le_refl _) hkb rfl
        have lt3 : w.heap.size + 1 < W3.heap.size := (Array.getElem?_eq_some_iff.1 hl3).1
        have hr := run_endRound (P := P) none hl3
        have eready : ({ R .busy with state := .ready, pending := none } : Loop) = R .ready := by rw [hR]
        simp only [Option.isNone_none, if_true] at hr
        rw [eready] at hr
        exact ⟨_, _, hr, rfl, ⟨put _ _ _ _ _ i3 (Nat.le_succ _) hl3 rfl, World.putObj_heap_same lt3, (World.putObj_heap_other (by omega)).trans hk3⟩,
          hKt _ _ _ kp (hKt _ _ _ (hKb _ _ _ _ (Nat.le_succ _) hla rfl) (hKt _ _ _ kp3 (hKb _ _ _ _ (Nat.le_succ _) hl3 rfl)))⟩
      | ret => exact hp.2.elim
      | exit id => exact hp.2.elim
      | goto t => exact hp.2.elim
      | panic ch => exact hp.elim
      | outgrown => exact hp.elim
    · rintro e W2 ⟨⟨v, rfl⟩, hi, hl, hk⟩
      have hr := run_endLoop (P := P) hl (by rw [hR]; simp)
      have ep : (R .ready).pending = none := by rw [hR]
      rw [ep] at hr
      exact ⟨none, _, hr, hdone _ _ (Nat.le_refl _) (put _ _ _ _ _ hi (Nat.le_succ _) hl rfl) ((World.putObj_heap_other (by omega)).trans hk)⟩
end Go.Proofs.Ytfjkelngdljikaa
