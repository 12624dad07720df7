/-
  Cuts of rows of utterances and of reports; append behind a guard in a drawn region. No walk. By an AI agent.
-/
import Derived.Test.YtfjkelngdljikaaOd
namespace Go.Proofs.Ytfjkelngdljikaa
set_option linter.unusedVariables false
set_option linter.unusedSimpArgs false
open Go.RowKit

section
variable {P : Program} (w : World)
/-- append in a drawn region, behind a guard that lets it through. -/
theorem step_append_want {ops : Array Oper} {o : Oper} {a : Act} {K : Act → World → Prop} {Q : Exit → Act → World → Prop} {E : Prop} (hw : Region.wanted o (yielded ops a.tmps) = true) (s x : Operand) (t : TypeId)
    (ho : o.op = .call { callee := .builtin .append, args := #[s, x], argTypes := #[t, t] })
    (base : Nat) (e : TypeId) (i : TypeInfo) (z : Value) (size bytes : Nat) (ht : P.underlying t = some (.slice e)) (hi : P.info? e = some i) (hz : i.zero = some z)
    (hsize : i.size = size) (hby : i.bytes = bytes) (hzs : z.cells.size = size) (hsz : 0 < size)
    (v : Value) (n : Nat) (xs : List Value) (hs : a.eval s = v) (hown : w.ownsRow base e size v n xs)
    (B : Nat) (A : Option Addr) (m c : Nat) (news : List Value) (hx : a.eval x = .slice A m c) (hr : Reads w B size A m news) (h1 : ∀ u ∈ news, u.oneCell' = true)
    (h63 : n + m ≤ maxLen) (hbytes : (n + m) * bytes ≤ 140737488355328) (hbase : base ≤ w.heap.size)
    (h : ∀ v' w', w'.ownsRow base e size v' (n + m) (xs ++ news) → w.grownBy w' v.ownBlock → (v'.ownBlock = v.ownBlock ∨ v'.ownBlock = some w.heap.size) → K (a.put o.dst v') w') :
    if Region.wanted o (yielded ops a.tmps) = true then Oper.wp P o a w K Q else E := by
  rw [if_pos hw]
  exact wp_append_any w s x t ho base e i z size bytes ht hi hz hsize hby hzs hsz v n xs hs hown B A m c news hx hr h1 h63 hbytes hbase h
end
namespace Q
theorem drop_us {w : World} {B : Nat} {A A' : Option Addr} {l : List Um} (h : Reads w B 5 A l.length (ucs l)) {k : Nat} (hk : k ≤ l.length) (hn : k < l.length → A' = A.map (·.add (k * 5))) : Reads w B 5 A' (l.drop k).length (ucs (l.drop k)) := by
  rw [List.length_drop]
  refine ⟨by rw [ucs_len, List.length_drop], fun h0 => ?_⟩
  obtain ⟨ad, rfl, hb, hc⟩ := h.2 (by omega)
  refine ⟨ad.add (k * 5), hn (by omega), by rw [block_of_add]; exact hb, fun j u hu => ?_⟩
  rw [add_of_add]
  refine hc _ u ?_
  rw [ucs_drop, List.getElem?_drop] at hu
  exact hu
/-- all[k:]. -/
theorem slice_from (A : Option Addr) (l : List Um) {c k : Nat} (hk : k ≤ l.length) (hc : l.length ≤ c) :
    ∃ A', (∀ w' : World, (Instr.sliceAt 26 (.slice A l.length c) (some (.int .i64 (k : Int))) none none).run Try.prog w' = .ok (.slice A' (l.drop k).length (c - k)) w') ∧ ∀ w B, UsIn w B A l → UsIn w B A' (l.drop k) := by
  refine ⟨if c = k then A else A.map (·.add (k * 5)), fun w' => ?_, fun w B h => ⟨drop_us h.row hk (fun h => by rw [if_neg (by omega)]), fun m hm => h.el m (List.mem_of_mem_drop hm)⟩⟩
  have ht : Try.prog.underlying 26 = some (.slice (Try.prog.elem 26)) := by kernel_rfl
  have hs : (sizeOf (Try.prog.elem 26)).run Try.prog w' = .ok 5 w' := by kernel_rfl
  rw [run_sliceAt_slice _ _ _ _ _ _ ht, run_slice_l _ _ _ _ _ ht .i64 (k : Int) (by omega) (by omega), hs]
  simp only [Result.andThen, sliced, Int.toNat_natCast, List.length_drop]
theorem scs_len (l : List Sm) : (scs l).length = l.length * 8 := by
  induction l with
  | nil => rfl
  | cons g l ih => simp only [scs, List.flatMap_cons, List.length_append, Sm.cells_len, List.length_cons] at ih ⊢; omega
theorem SsIn.take {w : World} {B : Nat} {A : Option Addr} {l : List Sm} (h : SsIn w B A l) {k : Nat} (hk : k ≤ l.length) : SsIn w B A (l.take k) := by
  refine ⟨?_, fun s hs => h.el s (List.mem_of_mem_take hs)⟩
  rw [List.length_take, Nat.min_eq_left hk]
  refine ⟨by rw [scs_len, List.length_take, Nat.min_eq_left hk], fun hn => ?_⟩
  obtain ⟨ad, e, hb, hc⟩ := h.row.2 (by omega)
  refine ⟨ad, e, hb, fun j u hu => hc j u ?_⟩
  have e2 : scs l = scs (l.take k) ++ scs (l.drop k) := by unfold scs; rw [← List.flatMap_append, List.take_append_drop]
  rw [e2, List.getElem?_append_left (List.getElem?_eq_some_iff.1 hu).1]
  exact hu
/-- y[:n]. -/
theorem slice_upto (A : Option Addr) {l c n : Nat} (hn : n ≤ l) (hc : l ≤ c) : ∀ w' : World, (Instr.sliceAt 45 (.slice A l c) none (some (.int .i64 (n : Int))) none).run Try.prog w' = .ok (.slice A n c) w' := by
  intro w'
  have ht : Try.prog.underlying 45 = some (.slice (Try.prog.elem 45)) := by kernel_rfl
  have hs : (sizeOf (Try.prog.elem 45)).run Try.prog w' = .ok 8 w' := by kernel_rfl
  rw [run_sliceAt_slice _ _ _ _ _ _ ht, run_slice_h _ _ _ _ _ ht .i64 (n : Int) (by omega) (by omega), hs]
  simp only [Result.andThen, sliced, Nat.zero_mul, Int.toNat_natCast, Nat.sub_zero]
  cases A with
  | none => simp
  | some ad => simp [Addr.add]
/-- A row of utterances of the call's own. -/
theorem us_own {W : World} {base : Nat} {A : Option Addr} {l : List Um} {n c : Nat} (h : W.ownsRow base 25 5 (.slice A n c) n (ucs l)) (hn : n = l.length) (hu : ∀ m ∈ l, UIn W W.heap.size m) : UsIn W W.heap.size A l := by
  subst hn
  obtain ⟨A1, c1, e1, r1, _⟩ := own_reads_cap h
  injection e1 with e1 _ _
  subst e1
  exact ⟨r1, hu⟩
/-- The utterances of a queue, as Order lists them. -/
def allU (q : Qm) : List Um := (if q.sp = true then [q.cur] else []) ++ q.items
theorem allU_u (q : Qm) : (allU q).map (·.u) = leftA q.a := by
  cases h : q.sp <;> simp [allU, leftA, Qm.a, h]
theorem allU_in {W : World} {B : Nat} {q : Qm} (h : QIn W B q) : ∀ m ∈ allU q, UIn W B m := by
  intro m hm
  rcases List.mem_append.1 hm with hm | hm
  · split at hm
    · rw [List.mem_singleton.1 hm]; exact h.cur
    · cases hm
  · exact h.items.el m hm
theorem allU_sml {q : Qm} (hs : q.a.Sml) (hc : chk q.a = 0) : ∀ m ∈ allU q, Small m.u ∧ 0 ≤ m.u.af := by
  have hp := chk_proper hc
  intro m hm
  rcases List.mem_append.1 hm with hm | hm
  · split at hm
    · rename_i h
      rw [List.mem_singleton.1 hm]
      exact ⟨hs.2.1, (pr_af (hp.sp h).1).1⟩
    · cases hm
  · exact ⟨hs.2.2 _ (List.mem_map.2 ⟨m, hm, rfl⟩), (pr_af (prs_mem hp.its (List.mem_map.2 ⟨m, hm, rfl⟩))).1⟩
/-- What is left is the end of what waited. -/
theorem ord_tail {AL : List Um} {q q5 : Qm} {ss : List Sm} {X1 : Qa} {X2 : List Sa} (h : X2.map (·.u) ++ leftA X1 = leftA q.a) (e5 : q5.a = X1) (es5 : ss.map Sm.a = X2) (au : AL.map (·.u) = leftA q.a) : (allU q5).map (·.u) = (AL.drop ss.length).map (·.u) := by
  subst e5 es5
  rw [allU_u, List.map_drop, au, ← h, List.drop_left' (by simp)]
end Q
end Go.Proofs.Ytfjkelngdljikaa
