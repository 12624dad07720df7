/-
  Arguments opened into what the walks ask: strings, integers, slices of one-cell elements. By an AI agent.
-/
import Derived.SliceStrings
import Derived.Test.YtfcanmicjpjjoaaRow
namespace Go.Proofs.Ytfcanmicjpjjoaa
open Go.ChangeShapes Go.WideShapes Go.ChangeAt Go.RowKit
open Go.ChangeMaps (open_string shut_string)

theorem wf_i64 {n : Int} (h : (Lit.int .i64 n).wf = true) : -9223372036854775808 ≤ n ∧ n ≤ 9223372036854775807 := by
  simpa [Lit.wf, IntKind.min, IntKind.max, IntKind.signed, IntKind.bits] using h
theorem wf_u8 {n : Int} (h : (Lit.int .u8 n).wf = true) : 0 ≤ n ∧ n ≤ 255 := by
  simpa [Lit.wf, IntKind.min, IntKind.max, IntKind.signed, IntKind.bits] using h
theorem wf_u32 {n : Int} (h : (Lit.int .u32 n).wf = true) : 0 ≤ n ∧ n ≤ 4294967295 := by
  simpa [Lit.wf, IntKind.min, IntKind.max, IntKind.signed, IntKind.bits] using h

section
variable {H : Type} {enc : TypeId × Value → H} {P : Program} {W : World}

/-- How long a slice's reading is. -/
def dlen : DataW H → Nat
  | .slice elems _ => elems.length
  | _ => 0

theorem sized_len {ts : List TypeId} {ds : List (DataW H)} (h : (DataW.weightsEach P ts ds).all (· ≤ reachBytes) = true) {j : Nat} {t e : TypeId} {d : DataW H} (ht : ts[j]? = some t) (hd : ds[j]? = some d) (hu : P.underlying t = some (.slice e)) :
    dlen d * P.bytesOf e ≤ reachBytes := by
  cases d with
  | slice elems spare =>
    have := sized_slice h ht hd hu
    exact Nat.le_trans (Nat.mul_le_mul_right _ (by simp [dlen])) this
  | _ => simp [dlen]

/-- A slice of strings that came in. -/
theorem open_strs {r : Reach} {b0 : Nat} {t e : TypeId} {v : Value} {d : DataW H} {ps : List MemPlace} (ht : P.underlying t = some (.slice e)) (he : P.underlying e = some .string) (hc : P.cellsOf e = 1)
    (hval : Value.okWide P W r b0 t v) (h : DataW.Trod enc P W 0 (fun _ => true) true t v d ps) :
    ∃ (A : Option Addr) (c : Nat) (ss : List ByteArray), v = .slice A ss.length c ∧ Reads W W.heap.size 1 A ss.length (ss.map Value.string) ∧ (∀ s ∈ ss, s.size ≤ maxLen) ∧ ss.length ≤ maxLen ∧ ss.length = dlen d ∧ ss.length ≤ c := by
  obtain ⟨a0, l0, c0, rfl⟩ := okWide_slice ht hval
  obtain ⟨m, hm⟩ := h
  have hlt := DataW.trod_lt m _ _ _ hm
  rcases open_strings ht he hc hm with ⟨hcs, hx⟩ | ⟨a, l, c, ss, hcs, _, hl, hmx, hlen, hx, hcell, hsz⟩
  · simp [Value.cells] at hcs
    obtain ⟨rfl, rfl, rfl⟩ := hcs
    simp at hx
    exact ⟨none, 0, [], rfl, Reads.none_, by simp, by simp, by simp [hx.1, dlen], by simp⟩
  · simp [Value.cells] at hcs
    obtain ⟨rfl, rfl, rfl⟩ := hcs
    simp only [if_true] at hlen
    simp only [Prod.mk.injEq] at hx
    have hl' : (ss.take l0).length = l0 := by simp; omega
    refine ⟨some a, c0, ss.take l0, by rw [hl'], ⟨by simp, fun hn => ⟨a, rfl, ?_, ?_⟩⟩, fun s hs => hsz s (List.mem_of_mem_take hs), by rw [hl']; omega, ?_, by rw [hl']; exact hl⟩
    · rw [hl'] at hn
      have := hlt (MemPlace.cell (a.add 0).block (a.add 0).off) (by rw [hx.2]; simp only [MemPlace.row, List.mem_map, List.mem_range]; exact ⟨0, by omega, by simp [Addr.add]⟩)
      simpa [MemPlace.block, block_of_add] using this
    · intro j u hu
      have hj : j < l0 := by
        have := (List.getElem?_eq_some_iff.1 hu).1
        simp at this; omega
      rw [hcell j (by omega)]
      simp [List.getElem?_map, List.getElem?_take, hj] at hu
      obtain ⟨s, hs, rfl⟩ := hu
      simp [List.getD_eq_getElem?_getD, hs]
    · rw [hx.1]
      simp [dlen, strs]
end
end Go.Proofs.Ytfcanmicjpjjoaa
