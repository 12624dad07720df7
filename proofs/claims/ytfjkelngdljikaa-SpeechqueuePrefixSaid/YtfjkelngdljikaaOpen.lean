/-
  Arguments opened into what the walks ask: strings, integers, slices of one-cell elements. By an AI agent.
-/
import Derived.Deep.Slices
import Derived.Test.YtfjkelngdljikaaRow
namespace Go.Proofs.Ytfjkelngdljikaa
open Go.ChangeShapes Go.WideShapes Go.ChangeAt Go.RowKit
open Go.ChangeMaps (open_string shut_string)

theorem wf_i64 {n : Int} (h : (Lit.int .i64 n).wf = true) : -9223372036854775808 ≤ n ∧ n ≤ 9223372036854775807 := by
  simpa [Lit.wf, IntKind.min, IntKind.max, IntKind.signed, IntKind.bits] using h
theorem wf_u8 {n : Int} (h : (Lit.int .u8 n).wf = true) : 0 ≤ n ∧ n ≤ 255 := by
  simpa [Lit.wf, IntKind.min, IntKind.max, IntKind.signed, IntKind.bits] using h
theorem wf_u32 {n : Int} (h : (Lit.int .u32 n).wf = true) : 0 ≤ n ∧ n ≤ 4294967295 := by
  simpa [Lit.wf, IntKind.min, IntKind.max, IntKind.signed, IntKind.bits] using h

section
variable {H : Type} {enc : TypeId × Value → H} {P : Program} {W : World}

/-- How long a slice's reading is. -/
def dlen : DataW H → Nat
  | .slice elems _ => elems.length
  | _ => 0

theorem sized_len {ts : List TypeId} {ds : List (DataW H)} (h : (DataW.weightsEach P ts ds).all (· ≤ reachBytes) = true) {j : Nat} {t e : TypeId} {d : DataW H} (ht : ts[j]? = some t) (hd : ds[j]? = some d) (hu : P.underlying t = some (.slice e)) :
    dlen d * P.bytesOf e ≤ reachBytes := by
  cases d with
  | slice elems spare =>
    have := sized_slice h ht hd hu
    exact Nat.le_trans (Nat.mul_le_mul_right _ (by simp [dlen])) this
  | _ => simp [dlen]

/-- A slice whatever, element by element: what each element's cells read as ('good' may speak of the world). -/
theorem trod_sl {α : Type} [Inhabited α] {t e : TypeId} {size : Nat} {enc' : α → List Value} {good : α → Prop} (ht : P.underlying t = some (.slice e)) (hC : P.cellsOf e = size) (hp : 0 < size)
    (hel : ∀ n cs y, DataW.trod enc P W 0 (fun _ => true) true n e cs = some y → cs.length = size → ∃ a, cs = enc' a ∧ good a)
    {n : Nat} {cs : List Value} {x : DataW H × List MemPlace} (h : DataW.trod enc P W 0 (fun _ => true) true n t cs = some x) :
    ∃ (A : Option Addr) (c : Nat) (xs : List α), cs = [.slice A xs.length c] ∧ Reads W W.heap.size size A xs.length (xs.flatMap enc') ∧ (∀ a ∈ xs, good a ∧ (enc' a).length = size) ∧ xs.length ≤ maxLen ∧ xs.length = dlen x.1 ∧ xs.length ≤ c := by
  have hlt := DataW.trod_lt n _ _ _ h
  rcases Go.Deep.open_slice ht h with ⟨hcs, hx⟩ | ⟨a, l, c, m, k, D, Pl, hcs, _, hl, hmx, hm, hx, hi⟩
  · subst hcs
    exact ⟨none, 0, [], rfl, by simpa using (Reads.none_ : Reads W W.heap.size size none 0 []), by simp, by simp, by simp [hx, dlen], by simp⟩
  · subst hcs
    simp only [if_true] at hm
    subst hm
    rw [hC] at hi hx
    obtain ⟨F, hF⟩ := Go.Deep.choose_lt (α := α) (n := l) (p := fun i a' => (enc' a').length = size ∧ good a' ∧ ∀ j, j < size → W.cell? ((a.add (i * size)).add j) = (enc' a')[j]?) (fun i hil => by
      obtain ⟨cs', h1, h2⟩ := hi i (by omega)
      obtain ⟨_, hlen, hat⟩ := World.cells?_some h1
      obtain ⟨a', rfl, hg⟩ := hel _ _ _ h2 hlen
      exact ⟨a', hlen, hg, fun j hj => hat j hj⟩)
    have hxl : ((List.range l).map F).length = l := by simp
    have hgood : ∀ a' ∈ (List.range l).map F, good a' ∧ (enc' a').length = size := by
      intro a' ha'
      simp only [List.mem_map, List.mem_range] at ha'
      obtain ⟨i, hil, rfl⟩ := ha'
      exact ⟨(hF i hil).2.1, (hF i hil).1⟩
    have hflat : ∀ (xs : List α), (∀ a' ∈ xs, (enc' a').length = size) → (xs.flatMap enc').length = xs.length * size := by
      intro xs
      induction xs with
      | nil => simp
      | cons y ys ih =>
        intro hy
        have h1 := hy y (by simp)
        have h2 := ih (fun z hz => hy z (by simp [hz]))
        rw [List.flatMap_cons, List.length_append, h1, h2, List.length_cons, Nat.succ_mul, Nat.add_comm]
    have hget : ∀ (xs : List α), (∀ a' ∈ xs, (enc' a').length = size) → ∀ i j, j < size → (xs.flatMap enc')[i * size + j]? = (xs[i]?).bind fun a' => (enc' a')[j]? := by
      intro xs
      induction xs with
      | nil => intro _ i j _; simp
      | cons y ys ih =>
        intro hy i j hj
        have h1 := hy y (by simp)
        have h2 := ih (fun z hz => hy z (by simp [hz]))
        rw [List.flatMap_cons]
        cases i with
        | zero => rw [List.getElem?_append_left (by omega)]; simp
        | succ i =>
          rw [List.getElem?_append_right (by rw [h1, Nat.succ_mul]; omega), h1, Nat.succ_mul, show i * size + size + j - size = i * size + j from by omega, h2 i j hj]
          simp
    refine ⟨some a, m, (List.range l).map F, by rw [hxl], ⟨hflat _ (fun a' h' => (hgood a' h').2), fun hn => ⟨a, rfl, ?_, ?_⟩⟩, hgood, by rw [hxl]; omega, ?_, by rw [hxl]; exact hl⟩
    · rw [hxl] at hn
      have := hlt (MemPlace.cell (a.add 0).block (a.add 0).off) (by
        rw [hx]
        refine List.mem_append_left _ ?_
        simp only [MemPlace.row, List.mem_map, List.mem_range]
        exact ⟨0, Nat.mul_pos (by omega) hp, by simp [Addr.add]⟩)
      simpa [MemPlace.block, block_of_add] using this
    · intro j u hu
      have hjl : j < l * size := by
        have := (List.getElem?_eq_some_iff.1 hu).1
        rw [hflat _ (fun a' h' => (hgood a' h').2), hxl] at this
        exact this
      have hdiv : j / size < l := Nat.div_lt_of_lt_mul (by rw [Nat.mul_comm]; exact hjl)
      have hmod : j % size < size := Nat.mod_lt _ hp
      have e : j = j / size * size + j % size := by rw [Nat.mul_comm]; exact (Nat.div_add_mod j size).symm
      have h1 := hget _ (fun a' h' => (hgood a' h').2) (j / size) (j % size) hmod
      rw [← e, hu] at h1
      have h2 := (hF _ hdiv).2.2 _ hmod
      rw [add_of_add, ← e] at h2
      rw [h2]
      simp only [List.getElem?_map, List.getElem?_range hdiv, Option.map_some, Option.bind_some] at h1
      exact h1.symm
    · rw [hx]
      simp [dlen]

/-- An argument that is a slice. -/
theorem open_sl {α : Type} [Inhabited α] {t e : TypeId} {size : Nat} {enc' : α → List Value} {good : α → Prop} {r : Reach} {b0 : Nat} {v : Value} {d : DataW H} {ps : List MemPlace} (ht : P.underlying t = some (.slice e)) (hC : P.cellsOf e = size) (hp : 0 < size)
    (hel : ∀ n cs y, DataW.trod enc P W 0 (fun _ => true) true n e cs = some y → cs.length = size → ∃ a, cs = enc' a ∧ good a)
    (hval : Value.okWide P W r b0 t v) (h : DataW.Trod enc P W 0 (fun _ => true) true t v d ps) :
    ∃ (A : Option Addr) (c : Nat) (xs : List α), v = .slice A xs.length c ∧ Reads W W.heap.size size A xs.length (xs.flatMap enc') ∧ (∀ a ∈ xs, good a ∧ (enc' a).length = size) ∧ xs.length ≤ maxLen ∧ xs.length = dlen d ∧ xs.length ≤ c := by
  obtain ⟨a0, l0, c0, rfl⟩ := okWide_slice ht hval
  obtain ⟨m, hm⟩ := h
  obtain ⟨A, c, xs, hcs, h1, h2, h3, h4, h5⟩ := trod_sl ht hC hp hel hm
  simp [Value.cells] at hcs
  obtain ⟨rfl, rfl, rfl⟩ := hcs
  exact ⟨_, _, xs, rfl, h1, h2, h3, h4, h5⟩

theorem flat_one {α : Type} (f : α → Value) (xs : List α) : xs.flatMap (fun a => [f a]) = xs.map f := by induction xs <;> simp_all

/-- A slice of strings that came in. -/
theorem open_strs {r : Reach} {b0 : Nat} {t e : TypeId} {v : Value} {d : DataW H} {ps : List MemPlace} (ht : P.underlying t = some (.slice e)) (he : P.underlying e = some .string) (hc : P.cellsOf e = 1)
    (hval : Value.okWide P W r b0 t v) (h : DataW.Trod enc P W 0 (fun _ => true) true t v d ps) :
    ∃ (A : Option Addr) (c : Nat) (ss : List ByteArray), v = .slice A ss.length c ∧ Reads W W.heap.size 1 A ss.length (ss.map Value.string) ∧ (∀ s ∈ ss, s.size ≤ maxLen) ∧ ss.length ≤ maxLen ∧ ss.length = dlen d ∧ ss.length ≤ c := by
  obtain ⟨A, c, xs, h0, h1, h2, h3⟩ := open_sl (α := ByteArray) (enc' := fun s => [.string s]) (good := fun s => s.size ≤ maxLen) ht hc (by omega) (fun n cs y hy _ => by
    obtain ⟨s, hs, _, hz⟩ := DataW.trod_string he hy
    exact ⟨s, hs, hz⟩) hval h
  rw [flat_one] at h1
  exact ⟨A, c, xs, h0, h1, fun s hs => (h2 s hs).1, h3⟩

/-- A slice of bools that came in. -/
theorem open_bls {r : Reach} {b0 : Nat} {t e : TypeId} {v : Value} {d : DataW H} {ps : List MemPlace} (ht : P.underlying t = some (.slice e)) (he : P.underlying e = some .bool) (hc : P.cellsOf e = 1)
    (hval : Value.okWide P W r b0 t v) (h : DataW.Trod enc P W 0 (fun _ => true) true t v d ps) :
    ∃ (A : Option Addr) (c : Nat) (ls : List Bool), v = .slice A ls.length c ∧ Reads W W.heap.size 1 A ls.length (ls.map Value.bool) ∧ ls.length ≤ maxLen ∧ ls.length = dlen d ∧ ls.length ≤ c := by
  obtain ⟨A, c, xs, h0, h1, h2, h3⟩ := open_sl (α := Bool) (enc' := fun s => [.bool s]) (good := fun _ => True) ht hc (by omega) (fun n cs y hy _ => by
    obtain ⟨s, hs, _⟩ := DataW.trod_bool he hy
    exact ⟨s, hs, trivial⟩) hval h
  rw [flat_one] at h1
  exact ⟨A, c, xs, h0, h1, h3⟩

/-- A slice of integers that came in. -/
theorem open_nums {r : Reach} {b0 : Nat} {t e : TypeId} {kd : IntKind} {v : Value} {d : DataW H} {ps : List MemPlace} (ht : P.underlying t = some (.slice e)) (he : P.underlying e = some (.int kd)) (hc : P.cellsOf e = 1)
    (hval : Value.okWide P W r b0 t v) (h : DataW.Trod enc P W 0 (fun _ => true) true t v d ps) :
    ∃ (A : Option Addr) (c : Nat) (ls : List Int), v = .slice A ls.length c ∧ Reads W W.heap.size 1 A ls.length (ls.map (Value.int kd)) ∧ (∀ z ∈ ls, (Lit.int kd z).wf = true) ∧ ls.length ≤ maxLen ∧ ls.length = dlen d ∧ ls.length ≤ c := by
  obtain ⟨A, c, xs, h0, h1, h2, h3⟩ := open_sl (α := Int) (enc' := fun s => [.int kd s]) (good := fun z => (Lit.int kd z).wf = true) ht hc (by omega) (fun n cs y hy _ => by
    obtain ⟨s, hs, _, hw⟩ := DataW.trod_int he hy
    exact ⟨s, hs, hw⟩) hval h
  rw [flat_one] at h1
  exact ⟨A, c, xs, h0, h1, fun s hs => (h2 s hs).1, h3⟩
end
end Go.Proofs.Ytfjkelngdljikaa
