/-
  A region that draws its order, in the round of a loop over an iterator: it may be walked as outside a round. By an AI agent.
-/
import Derived.OrdersIn
import Derived.RegionIn
import Derived.OwnWalkIn
import Derived.Test.YtfjkelngdljikaaAppend
namespace Go.Proofs.Ytfjkelngdljikaa
open Go.RowKit

section
variable {P : Program} {Q : Exit → Act → World → Prop} {ops : Array Oper} {md : Region.Mode} {n l : Nat}

def plainOp (o : Oper) : Bool := match o.op with | .defer _ => false | _ => true

theorem op_round {o : Oper} {a : Act} {w : World} {K : Act → World → Prop} (hd : plainOp o = true) (h : o.wpIn Fence.wide n P a w K Q) : o.wpIn (Fence.wide.inRound l) n P a w K Q := by
  unfold Oper.wpIn at *
  refine ⟨fun _ _ => trivial, ?_⟩
  have h := h.2
  rw [Oper.semAt_eq _ _ _ (fun c e => by simp [plainOp, e] at hd)] at h ⊢
  generalize (execOp a.eval o).run P w = r at *
  cases r with
  | ok x w' => cases x <;> exact h
  | halt x w' => cases x <;> exact h

theorem any_round (hd : ops.all plainOp = true) : ∀ (fuel : Nat) (listed : Array Bool) (a : Act) (w : World), wpAnyIn Fence.wide n P md ops Q fuel listed a w → wpAnyIn (Fence.wide.inRound l) n P md ops Q fuel listed a w
  | 0, _, _, _, h => h
  | fuel + 1, _, _, _, h => by
    refine ⟨h.1, fun i hi => ?_⟩
    have h2 := wpOpIn_mono (K' := wpAnyIn (Fence.wide.inRound l) n P md ops Q fuel _) (fun a w => any_round hd fuel _ a w) (h.2 i hi)
    unfold wpOpIn at h2 ⊢
    split
    · rename_i ho; simpa [ho] using h2
    · rename_i o ho
      simp only [ho] at h2
      have hp : plainOp o = true := by
        have := Array.all_eq_true'.1 hd o (Array.mem_of_getElem? ho)
        exact this
      split
      · rename_i hw; simp only [hw, if_true] at h2; exact op_round hp h2
      · rename_i hw; simp only [hw] at h2; exact ⟨fun _ _ => trivial, h2.2⟩

theorem region_round {id : Nat} {a : Act} {w : World} (hm : P.follows .mixedOrders = true) (hd : ops.all plainOp = true)
    (h : wpAnyIn Fence.wide n P .any ops Q ops.size (Array.replicate ops.size false) a w.drew) : (Code.region id ops true).wpIn (Fence.wide.inRound l) n P Q a w :=
  wpIn_region_any hm (any_round hd _ _ _ _ h)

/-- A new block of cells, as elements of more than one cell. -/
theorem reads_block (w : World) (cs : List Value) (t : TypeId) (size n : Nat) (hn : cs.length = n * size) : Reads (w.alloc (.cells cs.toArray t)) (w.alloc (.cells cs.toArray t)).heap.size size (some ⟨w.heap.size, 0, none⟩) n cs := by
  refine ⟨hn, fun _ => ⟨_, rfl, by simp, fun j u hu => ?_⟩⟩
  have e : ((⟨w.heap.size, 0, none⟩ : Addr).add j) = ⟨w.heap.size, j, none⟩ := by
    unfold Addr.add; split
    · rename_i h; subst h; rfl
    · simp
  rw [e, World.cell?_alloc_new]
  simpa using hu

theorem reads_block_at (w : World) (cs : List Value) (t : TypeId) (size n : Nat) (hn : cs.length = n * size) {N : Nat} (h : w.heap.size = N) : Reads (w.alloc (.cells cs.toArray t)) (w.alloc (.cells cs.toArray t)).heap.size size (some ⟨N, 0, none⟩) n cs := h ▸ reads_block w cs t size n hn
theorem reads_new_at (w : World) (cs : List Value) (t : TypeId) {N : Nat} (h : w.heap.size = N) : Reads (w.alloc (.cells cs.toArray t)) (w.alloc (.cells cs.toArray t)).heap.size 1 (some ⟨N, 0, none⟩) cs.length cs := h ▸ reads_new w cs t

/-- append, as one step of a region that draws, inside a fence. -/
theorem stepIn_append_any {F : Fence} (hro : F.round = none) {w : World} {o : Oper} {a : Act} {K : Act → World → Prop} {E : Prop} (hgd : o.guard = none) (s x : Operand) (t : TypeId)
    (ho : o.op = .call { callee := .builtin .append, args := #[s, x], argTypes := #[t, t] })
    (base : Nat) (e : TypeId) (i : TypeInfo) (z : Value) (size bytes : Nat) (ht : P.underlying t = some (.slice e)) (hi : P.info? e = some i) (hz : i.zero = some z)
    (hsize : i.size = size) (hby : i.bytes = bytes) (hzs : z.cells.size = size) (hsz : 0 < size)
    (v : Value) (n' : Nat) (xs : List Value) (hs : a.eval s = v) (hown : w.ownsRow base e size v n' xs)
    (B : Nat) (A : Option Addr) (m c : Nat) (news : List Value) (hx : a.eval x = .slice A m c) (hr : Reads w B size A m news) (h1 : ∀ u ∈ news, u.oneCell' = true)
    (h63 : n' + m ≤ maxLen) (hbytes : (n' + m) * bytes ≤ 140737488355328) (hbase : base ≤ w.heap.size)
    (h : ∀ v' w', w'.ownsRow base e size v' (n' + m) (xs ++ news) → w.grownBy w' v.ownBlock → (v'.ownBlock = v.ownBlock ∨ v'.ownBlock = some w.heap.size) → K (a.put o.dst v') w') :
    if Region.wanted o (yielded ops a.tmps) = true then Oper.wpIn F n P o a w K Q else E := by
  have hw : Region.wanted o (yielded ops a.tmps) = true := by simp [Region.wanted, hgd]
  rw [if_pos hw]
  obtain ⟨v', w', hrun, h2, h3, h4⟩ := run_append_any (P := P) w base t o.type e i z size bytes ht hi hz hsize hby hzs hsz v n' xs hown B A m c news hr h1 h63 hbytes hbase
  unfold Oper.wpIn
  rw [hro, Oper.semAt_none]
  refine ⟨fun f hf => ?_, ?_⟩
  · simp [Oper.about, ho, resolve, Target.leads] at hf
  · unfold execOp
    simp only [ho, resolve, invoke, builtin, Sem.run_bind, Sem.run_pure, Result.andThen_ok, List.map_toArray, List.map_cons, List.map_nil, hs, hx, hrun]
    exact h v' w' h2 h3 h4

theorem listIn_append_any {F : Fence} {w : World} {rest : List Oper} {o : Oper} {a : Act} (hgd : o.guard = none) (s x : Operand) (t : TypeId)
    (ho : o.op = .call { callee := .builtin .append, args := #[s, x], argTypes := #[t, t] })
    (base : Nat) (e : TypeId) (i : TypeInfo) (z : Value) (size bytes : Nat) (ht : P.underlying t = some (.slice e)) (hi : P.info? e = some i) (hz : i.zero = some z)
    (hsize : i.size = size) (hby : i.bytes = bytes) (hzs : z.cells.size = size) (hsz : 0 < size)
    (v : Value) (n' : Nat) (xs : List Value) (hs : a.eval s = v) (hown : w.ownsRow base e size v n' xs)
    (B : Nat) (A : Option Addr) (m c : Nat) (news : List Value) (hx : a.eval x = .slice A m c) (hr : Reads w B size A m news) (h1 : ∀ u ∈ news, u.oneCell' = true)
    (h63 : n' + m ≤ maxLen) (hbytes : (n' + m) * bytes ≤ 140737488355328) (hbase : base ≤ w.heap.size)
    (h : ∀ v' w', w'.ownsRow base e size v' (n' + m) (xs ++ news) → w.grownBy w' v.ownBlock → (v'.ownBlock = v.ownBlock ∨ v'.ownBlock = some w.heap.size) → wpListIn F n P ops Q rest (a.put o.dst v') w') :
    wpListIn F n P ops Q (o :: rest) a w := by
  refine wpListIn_plain hgd fun K hK' => ?_
  obtain ⟨v', w', hrun, h2, h3, h4⟩ := run_append_any (P := P) w base t o.type e i z size bytes ht hi hz hsize hby hzs hsz v n' xs hown B A m c news hr h1 h63 hbytes hbase
  unfold Oper.wpIn
  refine ⟨?_, ?_⟩
  · simp [Oper.about, ho, resolve, Target.leads, Sem.run_pure]
  · rw [Oper.semAt_plain F _ _ (by rw [ho]; intro c hc'; cases hc')]
    unfold execOp
    simp only [ho, resolve, invoke, builtin, Sem.run_bind, Sem.run_pure, Result.andThen_ok, List.map_toArray, List.map_cons, List.map_nil, hs, hx, hrun]
    exact hK' _ _ (h v' w' h2 h3 h4)
end
end Go.Proofs.Ytfjkelngdljikaa
