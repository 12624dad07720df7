/-
  EditscriptRenamed: bytes as numbers and as strings; four rows of the call's own. No walk. By an AI agent.
-/
import Derived.Test.YtpigimmgadcogaaScpS
import Derived.Test.YtpigimmgadcogaaLw1
import Derived.Test.YtpigimmgadcogaaSme
import Derived.Test.YtpigimmgadcogaaGrow
import Derived.Test.YtpigimmgadcogaaOpen
import Derived.Test.YtpigimmgadcogaaLw3
import Derived.Test.YtpigimmgadcogaaLw4
import Derived.Laws.BytesString
import Derived.Deep.RegionHeld
namespace Go.Proofs.Ytpigimmgadcogaa
open Go.RowKit

namespace E
/-- A byte as a string. -/
def bs (c : Int) : ByteArray := ByteArray.empty.push (UInt8.ofNat c.toNat)
theorem bs_inj {x y : Int} (hx : 0 ≤ x ∧ x ≤ 255) (hy : 0 ≤ y ∧ y ≤ 255) (h : bs x = bs y) : x = y := by
  unfold bs at h
  have h2 : (ByteArray.empty.push (UInt8.ofNat x.toNat)).data.toList = (ByteArray.empty.push (UInt8.ofNat y.toNat)).data.toList := by rw [h]
  simp [ByteArray.push, ByteArray.empty, ByteArray.emptyWithCapacity] at h2
  have h3 := congrArg UInt8.toNat h2
  simp [UInt8.toNat_ofNat'] at h3
  omega
/-- A row of bytes. -/
def us (l : List Int) : List Value := l.map (Value.int .u8)

theorem own_apart {W : World} {b b' s s' n n' : Nat} {e e' : TypeId} {v v' : Value} {xs xs' : List Value} (h : W.ownsRow b e s v n xs) (h' : W.ownsRow b' e' s' v' n' xs') (ne : e ≠ e') : ∀ g, v.ownBlock = some g → v'.ownBlock ≠ some g := by
  intro g hg hg'
  obtain ⟨cur, h1⟩ := own_type h hg
  obtain ⟨cur', h2⟩ := own_type h' hg'
  rw [h1] at h2
  simp only [Option.some.injEq, Obj.cells.injEq] at h2
  exact ne h2.2.1
theorem kept_of {W W' : World} {b s n : Nat} {e : TypeId} {v v' : Value} {xs : List Value} (h : W.ownsRow b e s v n xs) (hg : W.grownBy W' v'.ownBlock) (ha : ∀ g, v.ownBlock = some g → v'.ownBlock ≠ some g) : W'.ownsRow b e s v n xs := by
  refine h.kept hg ?_
  cases hv : v.ownBlock with
  | none => exact .inl rfl
  | some g => exact .inr (fun e => ha g hv e.symm)

/-- Four rows of the call's own: two of numbers, two of strings. -/
structure Q4 (N : Nat) (xs : List Int) (ss : List ByteArray) (ys : List Int) (ts : List ByteArray) (vx vs vy vt : Value) (w W : World) : Prop where
  x : W.ownsRow N 3 1 vx xs.length (ns xs)
  s : W.ownsRow N 9 1 vs ss.length (E.ss ss)
  y : W.ownsRow N 3 1 vy ys.length (ns ys)
  t : W.ownsRow N 9 1 vt ts.length (E.ss ts)
  ax : ∀ g, vx.ownBlock = some g → vy.ownBlock ≠ some g
  az : ∀ g, vs.ownBlock = some g → vt.ownBlock ≠ some g
  le : N ≤ W.heap.size
  bel : Below N w W
variable {N : Nat} {xs ys : List Int} {ss ts : List ByteArray} {vx vs vy vt : Value} {w W W' : World}
theorem Q4.symm (h : Q4 N xs ss ys ts vx vs vy vt w W) : Q4 N ys ts xs ss vy vt vx vs w W :=
  ⟨h.y, h.t, h.x, h.s, fun g h1 h2 => h.ax g h2 h1, fun g h1 h2 => h.az g h2 h1, h.le, h.bel⟩
theorem Q4.below (h : Q4 N xs ss ys ts vx vs vy vt w W) (hb : Below W.heap.size W W') : Q4 N xs ss ys ts vx vs vy vt w W' :=
  ⟨own_under h.x hb, own_under h.s hb, own_under h.y hb, own_under h.t hb, h.ax, h.az, Nat.le_trans h.le hb.size, h.bel.trans (hb.mono h.le)⟩
theorem Q4.pushx (h : Q4 N xs ss ys ts vx vs vy vt w W) {v' : Value} {c : Int} (h2 : W'.ownsRow N 3 1 v' (xs.length + 1) (ns xs ++ [.int .i64 c])) (hg : W.grownBy W' vx.ownBlock) (hn : v'.ownBlock = vx.ownBlock ∨ v'.ownBlock = some W.heap.size) : Q4 N (xs ++ [c]) ss ys ts v' vs vy vt w W' where
  x := by
    have e1 : (xs ++ [c]).length = xs.length + 1 := by simp
    have e2 : ns (xs ++ [c]) = ns xs ++ [.int .i64 c] := by simp [ns]
    rw [e1, e2]; exact h2
  s := kept_of h.s hg (own_apart h.s h.x (by decide))
  y := kept_of h.y hg (fun g h1 h2 => h.ax g h2 h1)
  t := kept_of h.t hg (own_apart h.t h.x (by decide))
  ax := fun g h1 h2 => by
    rcases hn with hn | hn
    · rw [hn] at h1; exact h.ax g h1 h2
    · rw [hn] at h1
      have := (h.y.lt g h2).2
      simp only [Option.some.injEq] at h1
      omega
  az := h.az
  le := Nat.le_trans h.le hg.size
  bel := h.bel.grown hg h.le (fun g e => (h.x.lt g e).1)
theorem Q4.pushs (h : Q4 N xs ss ys ts vx vs vy vt w W) {v' : Value} {c : ByteArray} (h2 : W'.ownsRow N 9 1 v' (ss.length + 1) (E.ss ss ++ [.string c])) (hg : W.grownBy W' vs.ownBlock) (hn : v'.ownBlock = vs.ownBlock ∨ v'.ownBlock = some W.heap.size) : Q4 N xs (ss ++ [c]) ys ts vx v' vy vt w W' where
  s := by
    have e1 : (ss ++ [c]).length = ss.length + 1 := by simp
    have e2 : E.ss (ss ++ [c]) = E.ss ss ++ [.string c] := by simp [E.ss]
    rw [e1, e2]; exact h2
  x := kept_of h.x hg (own_apart h.x h.s (by decide))
  y := kept_of h.y hg (own_apart h.y h.s (by decide))
  t := kept_of h.t hg (fun g h1 h2 => h.az g h2 h1)
  az := fun g h1 h2 => by
    rcases hn with hn | hn
    · rw [hn] at h1; exact h.az g h1 h2
    · rw [hn] at h1
      have := (h.t.lt g h2).2
      simp only [Option.some.injEq] at h1
      omega
  ax := h.ax
  le := Nat.le_trans h.le hg.size
  bel := h.bel.grown hg h.le (fun g e => (h.s.lt g e).1)
theorem q4_start (w : World) : Q4 w.heap.size [] [] [] [] (.slice (some ⟨w.heap.size, 0, none⟩) 0 0) (.slice (some ⟨w.heap.size + 1 + 1, 0, none⟩) 0 0) (.slice (some ⟨w.heap.size + 1, 0, none⟩) 0 0) (.slice (some ⟨w.heap.size + 1 + 1 + 1, 0, none⟩) 0 0) w ((((w.alloc (.cells #[] 3)).alloc (.cells #[] 3)).alloc (.cells #[] 9)).alloc (.cells #[] 9)) := by
  have own (W : World) (e : TypeId) (hW : w.heap.size ≤ W.heap.size) (n : Nat) (hn : n = W.heap.size) : (W.alloc (.cells #[] e)).ownsRow w.heap.size e 1 (.slice (some ⟨n, 0, none⟩) 0 0) 0 [] := by
    subst hn
    exact World.ownsRow_lit (base := w.heap.size) (e := e) (size := 1) W #[] 0 hW (by decide) rfl
  refine ⟨?_, ?_, ?_, ?_, ?_, ?_, by simp; omega, ((((Below.refl _ w).alloc (Nat.le_refl _) _).alloc (by simp) _).alloc (by simp; omega) _).alloc (by simp; omega) _⟩
  · exact (((own w 3 (Nat.le_refl _) _ rfl).alloc _).alloc _).alloc _
  · exact (own _ 9 (by simp; omega) _ (by simp)).alloc _
  · exact ((own _ 3 (by simp) _ (by simp)).alloc _).alloc _
  · exact own _ 9 (by simp; omega) _ (by simp)
  · intro g h1 h2
    simp [Value.ownBlock] at h1 h2
    omega
  · intro g h1 h2
    simp [Value.ownBlock] at h1 h2
    omega
/-- A block that is no row's is as it was. -/
theorem Q4.heapx (h : Q4 N xs ss ys ts vx vs vy vt w W) (hg : W.grownBy W' vx.ownBlock) {g : Nat} {C : Array Value} {e : TypeId} (hc : W.heap[g]? = some (.cells C e (0, 0))) (ne : e ≠ 3) : W'.heap[g]? = some (.cells C e (0, 0)) := by
  rw [← hc]
  refine hg.block g (Array.getElem?_eq_some_iff.1 hc).1 ?_
  intro hx
  obtain ⟨cur, h1⟩ := own_type h.x hx.symm
  rw [h1] at hc
  simp only [Option.some.injEq, Obj.cells.injEq] at hc
  exact ne hc.2.1.symm
end E
namespace E
theorem scr_mem (s : List Nat) : ∀ (cur : Option (Ed Int)) (i : Nat) (b : List Int), ∀ x ∈ scr cur i b s, ∀ z ∈ x.ins, z ∈ b ∨ ∃ c, cur = some c ∧ z ∈ c.ins := by
  induction s with
  | nil =>
    intro cur i b x hx z hz
    rw [scr_nil] at hx
    cases cur with
    | none => simp at hx
    | some c => simp at hx; subst hx; exact .inr ⟨x, rfl, hz⟩
  | cons k s ih =>
    intro cur i b x hx z hz
    simp only [scr] at hx
    split at hx
    · rcases List.mem_append.1 hx with hx | hx
      · cases cur with
        | none => simp at hx
        | some c => simp at hx; subst hx; exact .inr ⟨x, rfl, hz⟩
      · rcases ih none (i + 1) b.tail x hx z hz with h | ⟨c, h, _⟩
        · exact .inl (List.mem_of_mem_tail h)
        · cases h
    · split at hx
      · rcases ih _ (i + 1) b x hx z hz with h | ⟨c, h, h2⟩
        · exact .inl h
        · simp only [Option.some.injEq] at h
          subst h
          cases cur with
          | none => simp at h2
          | some c => exact .inr ⟨c, rfl, by simpa using h2⟩
      · rcases ih _ i b.tail x hx z hz with h | ⟨c, h, h2⟩
        · exact .inl (List.mem_of_mem_tail h)
        · simp only [Option.some.injEq] at h
          subst h
          have hb : ∀ y, y ∈ b.head?.toList → y ∈ b := fun y hy => by cases b <;> simp_all
          cases cur with
          | none =>
            simp at h2
            exact .inl (hb z (by simpa using h2))
          | some c =>
            simp at h2
            rcases h2 with h2 | h2
            · exact .inr ⟨c, rfl, h2⟩
            · exact .inl (hb z (by simpa using h2))
theorem script_mem {a b : List Int} {x : Ed Int} (hx : x ∈ script a b) {z : Int} (hz : z ∈ x.ins) : z ∈ b := by
  rcases scr_mem _ none 0 b x hx z hz with h | ⟨c, h, _⟩
  · exact h
  · cases h
theorem good_get {l : List (Ed Int)} : ∀ {lo : Int}, Good lo l → ∀ i (h : i < l.length), lo ≤ l[i].at_ ∧ 0 ≤ l[i].del ∧ 0 < l[i].del + (l[i].ins.length : Int) ∧ ∀ m, m + 1 = i → ∃ h' : m < l.length, l[m].at_ + l[m].del < l[i].at_ := by
  induction l with
  | nil => intro lo _ i h; simp at h
  | cons e l ih =>
    intro lo hg i h
    obtain ⟨h1, h2, h3, h4⟩ := hg
    cases i with
    | zero => exact ⟨h1, h2, h3, fun m hm => by omega⟩
    | succ i =>
      have hi : i < l.length := by simpa using h
      obtain ⟨k1, k2, k3, k4⟩ := ih h4 i hi
      refine ⟨by simp only [List.getElem_cons_succ]; omega, by simpa using k2, by simpa using k3, fun m hm => ?_⟩
      obtain rfl : m = i := by omega
      refine ⟨by simp; omega, ?_⟩
      cases m with
      | zero => simp only [List.getElem_cons_zero, List.getElem_cons_succ]; omega
      | succ m =>
        obtain ⟨h', k5⟩ := k4 m rfl
        simpa using k5
end E
namespace E
/-- Edits in memory, over any elements. -/
structure RdG {α : Type} (sz : Nat) (cv : α → List Value) (w : World) (B : Nat) (A : Option Addr) (xs : List (Es α)) : Prop where
  row : Reads w B 3 A xs.length (xs.flatMap ec)
  ins : ∀ x ∈ xs, ∃ A' c, x.sl = .slice A' x.ed.ins.length c ∧ Reads w B sz A' x.ed.ins.length (x.ed.ins.flatMap cv)
theorem RdG.below {α : Type} {sz : Nat} {cv : α → List Value} {w w' : World} {B B₁ : Nat} {A : Option Addr} {xs : List (Es α)} (h : RdG sz cv w B A xs) (hb : Below B₁ w w') (hB : B ≤ B₁) : RdG sz cv w' B A xs :=
  ⟨h.row.below hb hB, fun x hx => let ⟨A', c, h1, h2⟩ := h.ins x hx; ⟨A', c, h1, h2.below hb hB⟩⟩
theorem Eds.rdg {α : Type} {sz : Nat} {cv : α → List Value} {w : World} {TE TI base : Nat} {v : Value} {es : List (Es α)} (h : Eds TE TI sz cv base w v es) : ∃ A c, v = .slice A es.length c ∧ RdG sz cv w w.heap.size A es := by
  obtain ⟨A, c, hv, hr⟩ := own_reads h.own
  refine ⟨A, c, hv, hr, fun x hx => ?_⟩
  obtain ⟨A', c', hv', hr'⟩ := own_reads (h.ins x hx)
  exact ⟨A', c', hv', hr'⟩
theorem RdG.at_ {α : Type} {sz : Nat} {cv : α → List Value} {w : World} {B : Nat} {A : Option Addr} {xs : List (Es α)} (h : RdG sz cv w B A xs) (hn : 0 < xs.length) :
    ∃ b off, A = some ⟨b, off, none⟩ ∧ b < B ∧ ∀ k (hk : k < xs.length), w.cell? ⟨b, off + k * 3, none⟩ = some (.int .i64 xs[k].ed.at_) ∧ w.cell? ⟨b, off + k * 3 + 1, none⟩ = some (.int .i64 xs[k].ed.del) ∧ w.cell? ⟨b, off + k * 3 + 2, none⟩ = some xs[k].sl := by
  obtain ⟨b, off, e, hb, hc⟩ := h.row.flat hn (by decide)
  refine ⟨b, off, e, hb, fun k hk => ?_⟩
  have hg : ∀ j, j < 3 → (xs.flatMap ec)[k * 3 + j]? = (ec xs[k])[j]? := fun j hj => by
    rw [flat_get ec 3 xs ec_len k j hj, List.getElem?_eq_getElem hk]
    rfl
  exact ⟨hc (k * 3 + 0) _ (hg 0 (by decide)), hc (k * 3 + 1) _ (hg 1 (by decide)), hc (k * 3 + 2) _ (hg 2 (by decide))⟩
/-- What the law sees of the two lists of edits, place by place. -/
theorem ren_at {a b : List Int} {es : List (Es Int)} {fs : List (Es ByteArray)} (he : es.map (·.ed) = script a b) (hf : fs.map (·.ed) = script (a.map bs) (b.map bs))
    (ha : ∀ z ∈ a, 0 ≤ z ∧ z ≤ 255) (hb : ∀ z ∈ b, 0 ≤ z ∧ z ≤ 255) (la : a.length ≤ 30) (lb : b.length ≤ 30) :
    fs.length = es.length ∧ es.length ≤ 60 ∧ ∀ k (h : k < es.length) (h' : k < fs.length), fs[k].ed.at_ = es[k].ed.at_ ∧ fs[k].ed.del = es[k].ed.del ∧ fs[k].ed.ins = es[k].ed.ins.map bs ∧
      0 ≤ es[k].ed.at_ ∧ es[k].ed.at_ ≤ 30 ∧ 0 ≤ es[k].ed.del ∧ es[k].ed.del ≤ 60 ∧ es[k].ed.ins.length ≤ 60 ∧ 0 < es[k].ed.del + (es[k].ed.ins.length : Int) ∧ (∀ z ∈ es[k].ed.ins, 0 ≤ z ∧ z ≤ 255) ∧
      ∀ m, m + 1 = k → ∃ h' : m < es.length, es[m].ed.at_ + es[m].ed.del < es[k].ed.at_ := by
  have hm := script_map bs a b (fun x hx y hy => bs_inj (ha x hx) (hb y hy))
  rw [hm] at hf
  have l1 : es.length = (script a b).length := by rw [← he, List.length_map]
  have l2 : fs.length = (script a b).length := by have := congrArg List.length hf; simpa using this
  have low := script_low la lb
  refine ⟨by omega, by omega, fun k h h' => ?_⟩
  have hk : k < (script a b).length := by omega
  have e1 : ∀ m (h : m < es.length) (h2 : m < (script a b).length), es[m].ed = (script a b)[m] := fun m h h2 => by
    have := congrArg (fun l => l[m]?) he
    simpa [h, h2] using this
  have e2 : fs[k].ed = Ed.ren bs (script a b)[k] := by
    have := congrArg (fun l => l[k]?) hf
    simpa [h', hk] using this
  rw [e2, e1 k h hk]
  have mem := List.getElem_mem hk
  obtain ⟨g1, g2, g3, g4⟩ := good_get (script_good a b) k hk
  have l3 := low.2 _ mem
  have l4 := app_in (app_script a b) _ mem
  refine ⟨rfl, rfl, rfl, g1, by omega, l3.1, l3.2.1, l3.2.2, g3, fun z hz => hb z (script_mem mem hz), fun m hm => ?_⟩
  obtain ⟨h1, h2⟩ := g4 m hm
  refine ⟨by omega, ?_⟩
  rw [e1 m (by omega) h1]
  exact h2
end E
/-- A block of one cell, as append reads it. -/
theorem reads_cell {W : World} {g : Nat} {u : Value} {t : TypeId} (h : W.heap[g]? = some (.cells #[u] t (0, 0))) : Reads W W.heap.size 1 (some ⟨g, 0, none⟩) 1 [u] := by
  refine ⟨rfl, fun _ => ⟨_, rfl, (Array.getElem?_eq_some_iff.1 h).1, fun j z hz => ?_⟩⟩
  have e : ((⟨g, 0, none⟩ : Addr).add j) = ⟨g, j, none⟩ := by
    unfold Addr.add; split
    · rename_i h; subst h; rfl
    · simp
  rw [e]
  have : j = 0 := by
    have := (List.getElem?_eq_some_iff.1 hz).1
    simp at this; exact this
  subst this
  simp [World.cell?, h]
  simpa using hz
theorem heap_new_at (w : World) (o : Obj) {n : Nat} (h : n = w.heap.size) : (w.alloc o).heap[n]? = some o := by subst h; exact heap_alloc_new w o
theorem heap_old (w : World) (o : Obj) {n : Nat} {x : Obj} (h : w.heap[n]? = some x) : (w.alloc o).heap[n]? = some x := by
  rw [Below.heap_alloc w o n (Array.getElem?_eq_some_iff.1 h).1]; exact h
/-- A byte in a slice of its own, as a string. -/
theorem conv_byte {W : World} {g : Nat} {c : Int} (h : W.heap[g]? = some (.cells #[.int .u8 c] 5 (0, 0))) : (convert 39 9 (.slice (some ⟨g, 0, none⟩) 1 1)).run Try.prog W = .ok (.string (E.bs c)) W := by
  rw [run_convert_bytes_string W 39 9 5 _ _ _ Try.underlying39 Try.underlying5 Try.underlying9]
  have hc : W.cell? ⟨g, 0, none⟩ = some (.int .u8 c) := by simp [World.cell?, h]
  rw [run_bytesToString W ⟨g, 0, none⟩ 1 1 [c] (by simp [loadCells, hc, go_sem])]
  rfl
theorem step_run {P : Program} {w : World} {ops : Array Oper} {o : Oper} {a : Act} {K : Act → World → Prop} {Q : Exit → Act → World → Prop} {F : Prop} (hgd : o.guard = none) (v : Value) (h : (execOp a.eval o).run P w = .ok (.value v) w) (hK : K (a.put o.dst v) w) :
    if Region.wanted o (yielded ops a.tmps) = true then Oper.wp P o a w K Q else F := by
  have hw : Region.wanted o (yielded ops a.tmps) = true := by simp [Region.wanted, hgd]
  rw [if_pos hw]
  simp only [Oper.wp, h, Oper.upon]
  exact hK
end Go.Proofs.Ytpigimmgadcogaa
