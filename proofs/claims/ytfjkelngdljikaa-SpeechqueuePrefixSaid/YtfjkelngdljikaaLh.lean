/-
  Contracts for queues in variables; words for the laws of layer 44. By an AI agent.
-/
import Derived.Test.YtfjkelngdljikaaAw
import Derived.Test.YtfjkelngdljikaaIr
import Derived.Test.YtfjkelngdljikaaRa
import Derived.Test.YtfjkelngdljikaaLp
import Derived.Test.YtfjkelngdljikaaOpenQ
namespace Go.Proofs.Ytfjkelngdljikaa
set_option linter.unusedVariables false
set_option linter.unusedSimpArgs false
open Go.RowKit Go.Joins Go.Deep

namespace Q
/-- The cells of a queue in a variable. -/
theorem hq_cells {W : World} {b : Nat} {ck rt : Int} {sp : Bool} {p0 : List ByteArray} {p1 : List R.Cx} {p2 p3 p4 : Int} {a0 : Option Addr} {c0 : Nat} {a1 : Option Addr} {c1 : Nat} {be en : Int} {it : List Um} {ai : Option Addr} {ci : Nat} (h : HQ W b ⟨ck, rt, sp, ⟨⟨p0, p1, p2, p3, p4⟩, a0, c0, a1, c1⟩, be, en, it, ai, ci⟩) : W.cell? ⟨b, 0, none⟩ = some (.int .i64 ck) ∧ W.cell? ⟨b, 1, none⟩ = some (.int .i64 rt) ∧ W.cell? ⟨b, 2, none⟩ = some (.bool sp) ∧ W.cell? ⟨b, 3, none⟩ = some (.slice a0 p0.length c0) ∧ W.cell? ⟨b, 4, none⟩ = some (.slice a1 p1.length c1) ∧ W.cell? ⟨b, 5, none⟩ = some (.int .i64 p2) ∧ W.cell? ⟨b, 6, none⟩ = some (.int .i64 p3) ∧ W.cell? ⟨b, 7, none⟩ = some (.int .i64 p4) ∧ W.cell? ⟨b, 8, none⟩ = some (.int .i64 be) ∧ W.cell? ⟨b, 9, none⟩ = some (.int .i64 en) ∧ W.cell? ⟨b, 10, none⟩ = some (.slice ai it.length ci) := by
  have h8 := h.v
  simp only [Qm.cells] at h8
  have r0 := cell_of_block_ (i := 0) h8
  have r1 := cell_of_block_ (i := 1) h8
  have r2 := cell_of_block_ (i := 2) h8
  have r3 := cell_of_block_ (i := 3) h8
  have r4 := cell_of_block_ (i := 4) h8
  have r5 := cell_of_block_ (i := 5) h8
  have r6 := cell_of_block_ (i := 6) h8
  have r7 := cell_of_block_ (i := 7) h8
  have r8 := cell_of_block_ (i := 8) h8
  have r9 := cell_of_block_ (i := 9) h8
  have r10 := cell_of_block_ (i := 10) h8
  simp at r0 r1 r2 r3 r4 r5 r6 r7 r8 r9 r10
  exact ⟨r0, r1, r2, r3, r4, r5, r6, r7, r8, r9, r10⟩
theorem HQ.new {W : World} {C : Array Value} {q : Qm} (hC : q.cells.toArray = C) (h : QIn W W.heap.size q) : HQ (W.alloc (.cells C 28)) W.heap.size q :=
  ⟨by rw [hC]; exact heap_alloc_new W _, (h.below (below_box W _) (Nat.le_refl _)).more (below_box W _).size⟩
/-- The rest, as both reckon it. -/
def fin (a : Qa) : Int := rst2 a.rate (from_ a) a.items
theorem Proper.from_ {a : Qa} (h : Proper a) : 0 ≤ from_ a ∧ Q.from_ a ≤ 2199023255552 := by
  have := h.ck
  unfold Q.from_
  split
  · rename_i hs; have := h.sp hs; omega
  · omega
theorem small_ok {l : List Um} (h : ∀ u ∈ l.map (·.u), Small u) : ∀ m ∈ l, m.u.Ok := fun m hm => (h m.u (List.mem_map.2 ⟨m, hm, rfl⟩)).ok
theorem right_cases (a : Qa) : Q.right a = 0 ∨ (Q.right a = 1 ∧ chk a = 0 ∧ a.Sml) := by
  unfold Q.right
  split
  · rename_i h
    exact .inr ⟨rfl, h.1, Nat.le_trans (gr_zero h.2.1).1 (by decide), (gr_zero h.2.2).2 _ (by simp), (gr_zero h.2.1).2⟩
  · exact .inl rfl
variable {q : Qm} {W : World}
theorem rest_hq (h : QIn W W.heap.size q) (hs : q.a.Sml) (hc : chk q.a = 0) : Calls Try.prog 27 #[.agg q.cells.toArray] W fun e w' => e = .returned (.int .i64 (fin q.a)) ∧ Below W.heap.size W w' := by
  have hp := chk_proper hc
  have hf := hp.from_
  have hs2 : ∀ m ∈ q.items, Small m.u := fun m hm => hs.2.2 m.u (List.mem_map.2 ⟨m, hm, rfl⟩)
  have := rest_any q W.heap.size W h (Nat.le_refl _) (by have := hs.1; simpa [Qm.a] using this) hs2 (fun m hm => pr_af (prs_mem hp.its (List.mem_map.2 ⟨m, hm, rfl⟩))) hf.1 (by omega)
  have e : min (rst q.rate (Q.from_ q.a) q.a.items) 2199023255552 = fin q.a := by
    rw [rst_same _ _ hs.2.2, show min (Q.from_ q.a) 2199023255552 = Q.from_ q.a by omega]; rfl
  rw [e] at this
  exact this
theorem refrest_hq (h : QIn W W.heap.size q) (hs : q.a.Sml) (hc : chk q.a = 0) : Calls Try.prog 28 #[.agg q.cells.toArray] W fun e w' => e = .returned (.int .i64 (fin q.a)) ∧ Below W.heap.size W w' := by
  have hp := chk_proper hc
  have hf := hp.from_
  have hs2 : ∀ m ∈ q.items, Small m.u := fun m hm => hs.2.2 m.u (List.mem_map.2 ⟨m, hm, rfl⟩)
  exact refrest_any q W.heap.size W h (Nat.le_refl _) (by have := hs.1; simpa [Qm.a] using this) hs2 (fun m hm => pr_af (prs_mem hp.its (List.mem_map.2 ⟨m, hm, rfl⟩))) hf.1 hf.2
theorem check_hq (h : QIn W W.heap.size q) (hs : q.a.Sml) : Calls Try.prog 17 #[.agg q.cells.toArray] W fun e w' => e = .returned (.int .i64 (chk q.a)) ∧ Below W.heap.size W w' :=
  check_any q W.heap.size W h.items.row (Nat.le_refl _) (by have := hs.1; simp only [Qm.a, List.length_map] at this; unfold maxLen; omega) (fun m hm => by have := hs.2.2 m.u (List.mem_map.2 ⟨m, hm, rfl⟩); have h1 := this.1; have h2 := this.2.1; unfold maxLen; omega) (by have := hs.2.1.1; simp only [Qm.a] at this; unfold maxLen; omega) (by have := hs.2.1.2.1; simp only [Qm.a] at this; unfold maxLen; omega)
theorem advance_hq (time : Int) (h : QIn W W.heap.size q) (hs : q.a.Sml) (hc : chk q.a = 0) : Calls Try.prog 24 #[.agg q.cells.toArray, .int .i64 time] W fun e w' => AOut (q.a.advR time) W w' e :=
  advance_any q time W.heap.size W h (Nat.le_refl _) hs hc
theorem refadvance_hq (time : Int) (h : QIn W W.heap.size q) (hs : q.a.Sml) (hc : chk q.a = 0) : Calls Try.prog 25 #[.agg q.cells.toArray, .int .i64 time] W fun e w' => AOut (q.a.advR time) W w' e :=
  refadvance_any q time W.heap.size W h (Nat.le_refl _) hs hc
theorem same_hq {p : Qm} (h1 : QIn W W.heap.size p) (h2 : QIn W W.heap.size q) (he : p.a = q.a) (hs : p.a.Sml) : Calls Try.prog 16 #[.agg p.cells.toArray, .agg q.cells.toArray] W fun e w' => e = .returned (.bool true) ∧ Below W.heap.size W w' :=
  same_any p q W.heap.size W h1 h2 (Nat.le_refl _) he hs.2.1.ok (small_ok hs.2.2) (by have := hs.1; simp only [Qm.a, List.length_map] at this; unfold maxLen; omega)
theorem reps_hq {A1 A2 : Option Addr} {c1 c2 : Nat} {l1 l2 : List Sm} (h1 : SsIn W W.heap.size A1 l1) (h2 : SsIn W W.heap.size A2 l2) (he : l1.map Sm.a = l2.map Sm.a) (hl : (l1.map Sm.a).length ≤ 1000) (hs : ∀ s ∈ l1.map Sm.a, Small s.u) :
    Calls Try.prog 26 #[.slice A1 l1.length c1, .slice A2 l2.length c2] W fun e w' => e = .returned (.bool true) ∧ Below W.heap.size W w' :=
  samereps_any A1 A2 c1 c2 W.heap.size l1 l2 W h1 h2 (Nat.le_refl _) he (by rw [List.length_map] at hl; unfold maxLen; omega) (fun m hm => (hs m.a (List.mem_map.2 ⟨m, hm, rfl⟩)).ok)
theorem right_hq (h : QIn W W.heap.size q) (hl : q.items.length ≤ maxLen) (hf : ∀ m ∈ q.items, m.u.Fits) (hc : q.cur.u.Fits) : Calls Try.prog 11 #[.agg q.cells.toArray] W fun e w' => e = .returned (.int .i64 (Q.right q.a)) ∧ Below W.heap.size W w' :=
  right_any q W.heap.size W h (Nat.le_refl _) hl hf hc
/-- What Advance answers, in short. -/
theorem advR_facts {a : Qa} {time : Int} (hs : a.Sml) (hc : chk a = 0) : (a.advR time).1.Sml ∧ (a.advR time).2.1.length ≤ 17 ∧ (∀ s ∈ (a.advR time).2.1, Small s.u) ∧ (((a.advR time).2.2 = 0 ∧ chk (a.advR time).1 = 0) ∨ ((a.advR time).2.2 = 2 ∨ (a.advR time).2.2 = 10)) := by
  have hz : qz.Sml := ⟨Nat.zero_le _, ⟨Nat.zero_le _, Nat.zero_le _, (fun s hs => by cases hs), (fun c hc => by cases hc)⟩, fun u hu => by cases hu⟩
  unfold Qa.advR
  split
  · exact ⟨hz, Nat.zero_le _, (fun s hs => by cases hs), .inr (.inl rfl)⟩
  · split
    · exact ⟨hz, Nat.zero_le _, (fun s hs => by cases hs), .inr (.inr rfl)⟩
    · exact ⟨adv_sml' hs, adv_say_len hs, adv_say_small hs, .inl ⟨rfl, adv_chk hc hs (by omega) (by omega)⟩⟩
theorem SsIn.on {W' : World} {A : Option Addr} {l : List Sm} (h : SsIn W W.heap.size A l) (hb : Below W.heap.size W W') : SsIn W' W'.heap.size A l := (h.below hb (Nat.le_refl _)).more hb.size
end Q
end Go.Proofs.Ytfjkelngdljikaa
