/-
  The walks of layer 18: a view with rows of one letter. By an AI agent.
-/
import Derived.Deep.RegionLaw
import Derived.RangeFuncBox
import Derived.Test.YthohninbelhddaaAppend
import Derived.Test.YthohninbelhddaaRound
import Derived.Test.YthohninbelhddaaFi
import Derived.Test.YthohninbelhddaaGr
namespace Go.Proofs.Ythohninbelhddaa
open Go.RowKit

attribute [local go_sem] guard44

theorem infoRow : (Try.prog.info? 27).map (fun i => (i.zero, i.size, i.bytes)) = some (some (.slice none 0 0), 1, 24) := by kernel_rfl

/-- A row of glyphs that lies in a block of its own. -/
structure C.Rw (w : World) (r : Option Addr × Nat × List C.Gl) : Prop where
  blk : 0 < r.2.2.length → ∃ (b : Nat) (cs : Array Value), r.1 = some ⟨b, 0, none⟩ ∧ w.heap[b]? = some (.cells cs 44 (0, 0)) ∧ ∀ (j : Nat) (u : Value), (r.2.2.flatMap C.Gl.cells)[j]? = some u → cs[j]? = some u
  len : r.2.2.length ≤ maxLen
  sz : ∀ g ∈ r.2.2, g.t.size ≤ maxLen
theorem C.flat3 (l : List C.Gl) : (l.flatMap C.Gl.cells).length = l.length * 3 := by
  induction l with
  | nil => rfl
  | cons a l ih => simp [List.flatMap_cons, ih, C.Gl.cells]; omega
theorem C.addr0 (b j : Nat) : ((⟨b, 0, none⟩ : Addr).add j) = ⟨b, j, none⟩ := by
  unfold Addr.add; split
  · rename_i h; subst h; rfl
  · simp
theorem C.Rw.reads {w : World} {r : Option Addr × Nat × List C.Gl} (h : C.Rw w r) : Reads w w.heap.size 3 r.1 r.2.2.length (r.2.2.flatMap C.Gl.cells) := by
  refine ⟨C.flat3 _, fun hp => ?_⟩
  obtain ⟨b, cs, e, hb, hc⟩ := h.blk hp
  refine ⟨⟨b, 0, none⟩, e, (Array.getElem?_eq_some_iff.1 hb).1, fun j u hu => ?_⟩
  rw [C.addr0]
  simp [World.cell?, hb, hc j u hu]
theorem C.Rw.kept {w w' : World} {r : Option Addr × Nat × List C.Gl} (h : C.Rw w r) (hk : ∀ (b : Nat) (cs : Array Value), w.heap[b]? = some (.cells cs 44 (0, 0)) → w'.heap[b]? = w.heap[b]?) : C.Rw w' r :=
  ⟨fun hp => let ⟨b, cs, e, hb, hc⟩ := h.blk hp; ⟨b, cs, e, (hk b cs hb).trans hb, hc⟩, h.len, h.sz⟩
theorem C.not44 {w : World} {base n : Nat} {v : Value} {xs : List Value} {e : TypeId} (h : w.ownsRow base e 1 v n xs) (he : e ≠ 44) {b : Nat} {cs : Array Value} (hb : w.heap[b]? = some (.cells cs 44 (0, 0))) : some b ≠ v.ownBlock := by
  rcases h.2 with ⟨rfl, _⟩ | ⟨g, cap, cur, rfl, _, hg, _⟩
  · intro e; cases e
  · intro e'
    injection e' with e'
    subst e'
    rw [hb] at hg
    cases hg
    exact he rfl
theorem C.set6t {w : World} {R : Nat} {ty : TypeId} {c0 c1 c2 c3 c4 c5 : Value} (h : w.heap[R]? = some (.cells #[c0, c1, c2, c3, c4, c5] ty (0, 0))) (v0 v1 v2 v3 v4 v5 : Value) :
    ((((((w.setCell ⟨R, 0, none⟩ v0).setCell ⟨R, 1, none⟩ v1).setCell ⟨R, 2, none⟩ v2).setCell ⟨R, 3, none⟩ v3).setCell ⟨R, 4, none⟩ v4).setCell ⟨R, 5, none⟩ v5).heap[R]? = some (.cells #[v0, v1, v2, v3, v4, v5] ty (0, 0)) := by
  have s : ∀ (u : World) (c : Array Value) (j : Nat) (v : Value), u.heap[R]? = some (.cells c ty (0, 0)) → (u.setCell ⟨R, j, none⟩ v).heap[R]? = some (.cells (c.setIfInBounds j v) ty (0, 0)) := fun u c j v hu => heap_setCell_same u R j c ty v hu
  have := s _ _ 5 v5 (s _ _ 4 v4 (s _ _ 3 v3 (s _ _ 2 v2 (s _ _ 1 v1 (s _ _ 0 v0 h)))))
  simpa using this
theorem C.set6o {w : World} {R b : Nat} (h : b ≠ R) (v0 v1 v2 v3 v4 v5 : Value) :
    ((((((w.setCell ⟨R, 0, none⟩ v0).setCell ⟨R, 1, none⟩ v1).setCell ⟨R, 2, none⟩ v2).setCell ⟨R, 3, none⟩ v3).setCell ⟨R, 4, none⟩ v4).setCell ⟨R, 5, none⟩ v5).heap[b]? = w.heap[b]? := by
  have o : ∀ (u : World) (j : Nat) (v : Value), (u.setCell ⟨R, j, none⟩ v).heap[b]? = u.heap[b]? := fun u j v => heap_setCell_other u ⟨R, j, none⟩ b v h
  rw [o, o, o, o, o, o]

/-- What holds in the loop of 'of'. -/
structure C.OI (w wr : World) (n k : Nat) (v : Value) (rs : List (Option Addr × Nat × List C.Gl)) : Prop where
  own : wr.ownsRow (w.heap.size + 1 + 1) 27 1 v k (rs.map C.slv)
  len : rs.length = k
  vb : wr.heap[w.heap.size + 1]? = some (.cells #[.int .i64 4, .int .i64 n, v, .int .i64 0, .int .i64 0, .bool false] 24 (0, 0))
  zb : wr.heap[w.heap.size]? = some (.cells #[.int .i64 0, .int .i64 0, .slice none 0 0, .int .i64 0, .int .i64 0, .bool false] 24 (0, 0))
  rws : ∀ r ∈ rs, C.Rw wr r
  bel : Below w.heap.size w wr
  siz : w.heap.size + 1 + 1 ≤ wr.heap.size
theorem C.OI.step {w wr W1 W2 : World} {n k : Nat} {v v' : Value} {rs : List (Option Addr × Nat × List C.Gl)} (h : C.OI w wr n k v rs) (ch : ByteArray) (hch : ch.size ≤ maxLen)
    (hg : W1.grownBy W2 v.ownBlock) (hown : W2.ownsRow (w.heap.size + 1 + 1) 27 1 v' (k + 1) (rs.map C.slv ++ [.slice (some ⟨wr.heap.size, 0, none⟩) 1 1]))
    (hW1 : W1.heap = ((wr.alloc (.cells #[.string ch, .bool false, .int .i64 0] 44)).alloc (.cells #[.slice (some ⟨wr.heap.size, 0, none⟩) 1 1] 27)).heap) (hb1 : Below w.heap.size w W1) :
    W2.heap[w.heap.size + 1]? = some (.cells #[.int .i64 4, .int .i64 n, v, .int .i64 0, .int .i64 0, .bool false] 24 (0, 0)) ∧
    C.OI w (W2.setCell ⟨w.heap.size + 1, 2, none⟩ v') n (k + 1) v' (rs ++ [(some ⟨wr.heap.size, 0, none⟩, 1, [⟨ch, false, 0⟩])]) := by
  have hz := h.siz
  have hsz : W1.heap.size = wr.heap.size + 2 := by rw [hW1]; simp
  have old : ∀ b, b < wr.heap.size → W1.heap[b]? = wr.heap[b]? := fun b hb => by
    rw [hW1]
    exact (Below.heap_alloc _ _ _ (by simp; omega)).trans (Below.heap_alloc _ _ _ hb)
  have lo : ∀ b, some b = v.ownBlock → w.heap.size + 1 + 1 ≤ b := fun b e => (h.own.lt b e.symm).1
  have keep : ∀ b, b < wr.heap.size → some b ≠ v.ownBlock → W2.heap[b]? = wr.heap[b]? := fun b hb hne => (hg.block b (by omega) hne).trans (old b hb)
  have hv2 : W2.heap[w.heap.size + 1]? = some (.cells #[.int .i64 4, .int .i64 n, v, .int .i64 0, .int .i64 0, .bool false] 24 (0, 0)) := (keep _ (by omega) (fun e => by have := lo _ e; omega)).trans h.vb
  have hz2 : W2.heap[w.heap.size]? = some (.cells #[.int .i64 0, .int .i64 0, .slice none 0 0, .int .i64 0, .int .i64 0, .bool false] 24 (0, 0)) := (keep _ (by omega) (fun e => by have := lo _ e; omega)).trans h.zb
  have oth : ∀ b, b ≠ w.heap.size + 1 → (W2.setCell ⟨w.heap.size + 1, 2, none⟩ v').heap[b]? = W2.heap[b]? := fun b hb => heap_setCell_other W2 ⟨w.heap.size + 1, 2, none⟩ b v' hb
  have hs2 := hg.size
  have new0 : W2.heap[wr.heap.size]? = some (.cells #[.string ch, .bool false, .int .i64 0] 44 (0, 0)) := by
    refine (hg.block _ (by omega) ?_).trans ?_
    · intro e
      have := (h.own.lt _ e.symm).2
      omega
    · rw [hW1]
      exact (Below.heap_alloc _ _ _ (by simp)).trans (C.heap_new wr _)
  refine ⟨hv2, ?_⟩
  refine ⟨?_, by simp [h.len], ?_, (oth _ (by omega)).trans hz2, ?_, ?_, ?_⟩
  · have := ownsRow_setCell_below hown (a := ⟨w.heap.size + 1, 2, none⟩) (by show w.heap.size + 1 < _; omega) v'
    simpa [C.slv] using this
  · have := heap_setCell_same W2 (w.heap.size + 1) 2 _ 24 v' hv2
    simpa using this
  · intro r hr
    rcases List.mem_append.1 hr with hr | hr
    · refine (h.rws r hr).kept (fun b cs hb => ?_)
      have hbl := (Array.getElem?_eq_some_iff.1 hb).1
      have hbn : b ≠ w.heap.size + 1 := fun e => by subst e; rw [h.vb] at hb; cases hb
      exact (oth b hbn).trans (keep b hbl (C.not44 h.own (by decide) hb))
    · simp only [List.mem_cons, List.not_mem_nil, or_false] at hr
      subst hr
      refine ⟨fun _ => ⟨wr.heap.size, _, rfl, (oth _ (by omega)).trans new0, fun j u hu => ?_⟩, by show 1 ≤ maxLen; decide, fun g hg' => ?_⟩
      · simpa [C.Gl.cells] using hu
      · simp only [List.mem_cons, List.not_mem_nil, or_false] at hg'
        subst hg'
        exact hch
  · exact ((hb1.grown hg (by omega) (fun b e => by have := lo b e.symm; omega)).setCell (by show w.heap.size ≤ w.heap.size + 1; omega) _)
  · simp; omega
theorem C.OI.fin {w wr : World} {n k c : Nat} {A : Option Addr} {rs : List (Option Addr × Nat × List C.Gl)} (h : C.OI w wr n k (.slice A k c) rs) (hk : k ≤ maxLen) (v0 v1 v2 v3 v4 v5 : Value) :
    C.Rv ((((((wr.setCell ⟨w.heap.size, 0, none⟩ v0).setCell ⟨w.heap.size, 1, none⟩ v1).setCell ⟨w.heap.size, 2, none⟩ v2).setCell ⟨w.heap.size, 3, none⟩ v3).setCell ⟨w.heap.size, 4, none⟩ v4).setCell ⟨w.heap.size, 5, none⟩ v5) wr.heap.size A rs := by
  have lt : w.heap.size < w.heap.size + 1 + 1 := by omega
  have o := ownsRow_setCell_below (ownsRow_setCell_below (ownsRow_setCell_below (ownsRow_setCell_below (ownsRow_setCell_below (ownsRow_setCell_below h.own (a := ⟨w.heap.size, 0, none⟩) lt v0) (a := ⟨w.heap.size, 1, none⟩) lt v1) (a := ⟨w.heap.size, 2, none⟩) lt v2) (a := ⟨w.heap.size, 3, none⟩) lt v3) (a := ⟨w.heap.size, 4, none⟩) lt v4) (a := ⟨w.heap.size, 5, none⟩) lt v5
  have hlen := h.len
  subst hlen
  refine ⟨(Reads.of_own o).more (by simp), fun r hr => ?_, hk⟩
  have hr' := (h.rws r hr).kept (w' := ((((((wr.setCell ⟨w.heap.size, 0, none⟩ v0).setCell ⟨w.heap.size, 1, none⟩ v1).setCell ⟨w.heap.size, 2, none⟩ v2).setCell ⟨w.heap.size, 3, none⟩ v3).setCell ⟨w.heap.size, 4, none⟩ v4).setCell ⟨w.heap.size, 5, none⟩ v5)) (fun b cs hb => C.set6o (fun e => by subst e; rw [h.zb] at hb; cases hb) _ _ _ _ _ _)
  exact ⟨hr'.reads.more (by simp), hr'.len, hr'.sz⟩
/-- The rows of one letter. -/
def C.ofl (s : ByteArray) (k : Nat) : List (List C.Gl) := (List.range k).map fun i => [⟨s.extract i (i + 1), false, 0⟩]
def C.OfOut (s : ByteArray) (w w' : World) (e : Ending) : Prop := ∃ A c, ∃ rs : List (Option Addr × Nat × List C.Gl), e = .returned (.agg #[.int .i64 4, .int .i64 s.size, .slice A rs.length c, .int .i64 0, .int .i64 0, .bool false]) ∧ C.Rv w' w'.heap.size A rs ∧ rs.map (·.2.2) = C.ofl s s.size ∧ Below w.heap.size w w'

set_option maxRecDepth 100000 in
set_option maxHeartbeats 4000000 in
theorem of_any (s : ByteArray) (hs : s.size ≤ 1000) (w : World) : Calls Try.prog 23 #[.string s] w fun e w' => C.OfOut s w w' e := by
  obtain ⟨i0, hi, hz0, hz1, hz2⟩ := info_parts infoRow
  have OI0 : C.OI w (((w.alloc (.cells #[.int .i64 0, .int .i64 0, .slice none 0 0, .int .i64 0, .int .i64 0, .bool false] 24)).alloc (.cells #[.int .i64 4, .int .i64 s.size, .slice none 0 0, .int .i64 0, .int .i64 0, .bool false] 24))) s.size 0 (.slice none 0 0) [] := by
    have h1 : (((w.alloc (.cells #[.int .i64 0, .int .i64 0, .slice none 0 0, .int .i64 0, .int .i64 0, .bool false] 24)).alloc (.cells #[.int .i64 4, .int .i64 s.size, .slice none 0 0, .int .i64 0, .int .i64 0, .bool false] 24))).heap[w.heap.size + 1]? = some (.cells #[.int .i64 4, .int .i64 s.size, .slice none 0 0, .int .i64 0, .int .i64 0, .bool false] 24 (0, 0)) := by
      have := C.heap_new (w.alloc (.cells #[.int .i64 0, .int .i64 0, .slice none 0 0, .int .i64 0, .int .i64 0, .bool false] 24)) (.cells #[.int .i64 4, .int .i64 s.size, .slice none 0 0, .int .i64 0, .int .i64 0, .bool false] 24)
      rw [World.size_alloc] at this
      exact this
    have h0 : (((w.alloc (.cells #[.int .i64 0, .int .i64 0, .slice none 0 0, .int .i64 0, .int .i64 0, .bool false] 24)).alloc (.cells #[.int .i64 4, .int .i64 s.size, .slice none 0 0, .int .i64 0, .int .i64 0, .bool false] 24))).heap[w.heap.size]? = some (.cells #[.int .i64 0, .int .i64 0, .slice none 0 0, .int .i64 0, .int .i64 0, .bool false] 24 (0, 0)) := (Below.heap_alloc _ _ _ (by simp)).trans (C.heap_new w _)
    have hb : Below w.heap.size w (((w.alloc (.cells #[.int .i64 0, .int .i64 0, .slice none 0 0, .int .i64 0, .int .i64 0, .bool false] 24)).alloc (.cells #[.int .i64 4, .int .i64 s.size, .slice none 0 0, .int .i64 0, .int .i64 0, .bool false] 24))) := ((Below.refl _ w).alloc (Nat.le_refl _) _).alloc (by simp) _
    exact ⟨World.ownsRow_nil _ _ _ _, rfl, h1, h0, (fun r hr => absurd hr (List.not_mem_nil)), hb, by simp⟩
  have OI0' := Lib.hid OI0
  clear OI0
  go_enter Try.func23, Try.ntmps23
  go_wp2
  go_loopw [10] (fun v10 wr => ∃ (k : Nat) (v : Value), ∃ rs : List (Option Addr × Nat × List C.Gl), v10 = .int .i64 k ∧ k ≤ s.size ∧ Hid (rs.map (·.2.2) = C.ofl s k) ∧ Hid (C.OI w wr s.size k v rs)) (fun v10 _ => s.size - (intOf v10).toNat)
  case atStart => exact ⟨0, _, [], rfl, Nat.zero_le _, Lib.hid rfl, OI0'⟩
  case round =>
    clear OI0'
    obtain ⟨k, v, rs, rfl, hk, hrs, hoi⟩ := hrel
    by_cases hlt : k < s.size
    · have q1 : (0 : Int) ≤ (k : Int) := by omega
      have q2 : (k : Int) < (s.size : Int) := by omega
      have q3 : (k : Int) + 1 ≤ (s.size : Int) := by omega
      have q5 : (0 : Int) ≤ (k : Int) + 1 := by omega
      have q6 : (k : Int) ≤ (k : Int) + 1 := by omega
      have q4 : IntKind.i64.wrap ((k : Int) + 1) = (k : Int) + 1 := by simp [IntKind.wrap, IntKind.bits, IntKind.signed]; omega
      have vb := hoi.out.vb
      have siz := hoi.out.siz
      have own := hoi.out.own
      have x2 := C.blk_cell vb 2
      simp only [List.getElem?_toArray, List.getElem?_cons_zero, List.getElem?_cons_succ] at x2
      obtain ⟨ch, hch⟩ : ∃ ch, s.extract k (k + 1) = ch := ⟨_, rfl⟩
      have hcs : ch.size ≤ maxLen := by rw [← hch]; simp [maxLen]; omega
      have b0 : Below w.heap.size w ((wr.alloc (.cells #[.string ch, .bool false, .int .i64 0] 44)).alloc (.cells #[.slice (some ⟨wr.heap.size, 0, none⟩) 1 1] 27)) := (hoi.out.bel.alloc hoi.out.bel.size _).alloc (by have := hoi.out.bel.size; simp; omega) _
      have xa2 := (World.cell?_alloc_lt wr (.cells #[.string ch, .bool false, .int .i64 0] 44) ⟨w.heap.size + 1, 2, none⟩ (by show w.heap.size + 1 < _; omega)).trans x2
      have xb2 := (World.cell?_alloc_lt (wr.alloc (.cells #[.string ch, .bool false, .int .i64 0] 44)) (.cells #[.slice (some ⟨wr.heap.size, 0, none⟩) 1 1] 27) ⟨w.heap.size + 1, 2, none⟩ (by show w.heap.size + 1 < _; simp; omega)).trans xa2
      go_wp2
      go_region_law (refine step_append_any _ rfl (.tmp 14) (.tmp 22) 22 rfl (w.heap.size + 1 + 1) 27 i0 _ 1 24 Try.underlying22 hi hz0 hz1 hz2 rfl (by decide) v _ _ rfl ((own.alloc (.cells #[.string ch, .bool false, .int .i64 0] 44)).alloc (.cells #[.slice (some ⟨wr.heap.size, 0, none⟩) 1 1] 27)) _ _ 1 1 [.slice (some ⟨wr.heap.size, 0, none⟩) 1 1] rfl (reads_block_at _ [.slice (some ⟨wr.heap.size, 0, none⟩) 1 1] 27 1 1 rfl (N := wr.heap.size + 1) (by simp)) (by simp [Value.oneCell']) (by simp only [maxLen]; omega) (by omega) (by simp; omega) ?_; intro v' W2 hown' hgrow hnew; obtain ⟨gg, cap', rfl⟩ := ownsRow_succ hown'; have hst := C.OI.step hoi.out ch hcs hgrow hown' rfl (by first | exact below_drewN b0 1 | exact b0); obtain ⟨vb2, hoi2⟩ := hst; have t2 := C.blk_cell vb2 2; have f2 := C.blk_frozen vb2 2; simp only [List.getElem?_toArray, List.getElem?_cons_zero, List.getElem?_cons_succ] at t2)
      all_goals
        have hoi3 := Lib.hid hoi2
        have hrs2 : Hid ((rs ++ [(some ⟨wr.heap.size, 0, none⟩, 1, [⟨ch, false, 0⟩])] : List (Option Addr × Nat × List C.Gl)).map (·.2.2) = C.ofl s (k + 1)) := Lib.hid (by rw [List.map_append, hrs.out]; simp [C.ofl, List.range_succ, ← hch])
        clear hoi2 vb2
        go_wp2
        go_roundw
        case rel => exact ⟨k + 1, _, _, by go_num, hlt, hrs2, hoi3⟩
        case measure => simp [intOf] <;> omega
    · obtain rfl : k = s.size := by omega
      have OUT := hoi.out
      obtain ⟨A, c, rfl, hr⟩ := own_reads OUT.own
      have h6 := C.set6t OUT.zb (.int .i64 4) (.int .i64 s.size) (.slice A s.size c) (.int .i64 0) (.int .i64 0) (.bool false)
      have hb6 := C.bel6 (R := w.heap.size) OUT.bel (Nat.le_refl _) (.int .i64 4) (.int .i64 s.size) (.slice A s.size c) (.int .i64 0) (.int .i64 0) (.bool false)
      have z0 := C.blk_cell h6 0
      have y0 := C.blk_frozen OUT.zb 0
      have x0 := C.blk_cell OUT.vb 0
      have r0 := C.blk_cell OUT.zb 0
      have z1 := C.blk_cell h6 1
      have y1 := C.blk_frozen OUT.zb 1
      have x1 := C.blk_cell OUT.vb 1
      have r1 := C.blk_cell OUT.zb 1
      have z2 := C.blk_cell h6 2
      have y2 := C.blk_frozen OUT.zb 2
      have x2 := C.blk_cell OUT.vb 2
      have r2 := C.blk_cell OUT.zb 2
      have z3 := C.blk_cell h6 3
      have y3 := C.blk_frozen OUT.zb 3
      have x3 := C.blk_cell OUT.vb 3
      have r3 := C.blk_cell OUT.zb 3
      have z4 := C.blk_cell h6 4
      have y4 := C.blk_frozen OUT.zb 4
      have x4 := C.blk_cell OUT.vb 4
      have r4 := C.blk_cell OUT.zb 4
      have z5 := C.blk_cell h6 5
      have y5 := C.blk_frozen OUT.zb 5
      have x5 := C.blk_cell OUT.vb 5
      have r5 := C.blk_cell OUT.zb 5
      simp only [List.getElem?_toArray, List.getElem?_cons_zero, List.getElem?_cons_succ] at r0 r1 r2 r3 r4 r5 z0 z1 z2 z3 z4 z5 x0 x1 x2 x3 x4 x5
      have HB6 := Lib.hid hb6
      have HL : Hid (rs.length = s.size) := Lib.hid OUT.len
      have HR : Hid (C.Rv (((((((wr).setCell ⟨w.heap.size, 0, none⟩ (.int .i64 4)).setCell ⟨w.heap.size, 1, none⟩ (.int .i64 s.size)).setCell ⟨w.heap.size, 2, none⟩ (.slice A s.size c)).setCell ⟨w.heap.size, 3, none⟩ (.int .i64 0)).setCell ⟨w.heap.size, 4, none⟩ (.int .i64 0)).setCell ⟨w.heap.size, 5, none⟩ (.bool false)) wr.heap.size A rs) := Lib.hid (OUT.fin (by simp only [maxLen]; omega) (.int .i64 4) (.int .i64 s.size) (.slice A s.size c) (.int .i64 0) (.int .i64 0) (.bool false))
      clear h6 hb6 OUT
      go_wp2_with fail
      refine bodyPost_ret (v := .agg #[.int .i64 4, .int .i64 s.size, .slice A s.size c, .int .i64 0, .int .i64 0, .bool false]) (by simp [results, Try.results23, go_sem, *]) rfl ?_
      exact ⟨A, c, rs, by rw [HL.out], HR.out.more (by simp), hrs.out, HB6.out⟩
end Go.Proofs.Ythohninbelhddaa
