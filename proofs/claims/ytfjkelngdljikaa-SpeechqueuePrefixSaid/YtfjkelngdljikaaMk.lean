/-
  Rows of the call's own: cells stored into them; Clone. By an AI agent.
-/
import Derived.Test.YtfjkelngdljikaaSz
import Derived.Test.YtfjkelngdljikaaAppend
import Derived.Test.YtfjkelngdljikaaGrow
import Derived.Deep.MidRow
import Derived.Lib.LazyBuf
import Derived.Lib.SmallJoins
namespace Go.Proofs.Ytfjkelngdljikaa
set_option linter.unusedVariables false
set_option linter.unusedSimpArgs false
open Go.RowKit

def putAt : List Value → Nat → List Value → List Value
  | xs, _, [] => xs
  | xs, o, v :: vs => putAt (xs.set o v) (o + 1) vs
theorem putAt_mid : ∀ (vs A B C : List Value), B.length = vs.length → putAt (A ++ (B ++ C)) A.length vs = A ++ (vs ++ C)
  | [], A, B, C, h => by
    have : B = [] := List.eq_nil_of_length_eq_zero (by simpa using h)
    subst this
    rfl
  | v :: vs, A, [], C, h => by simp at h
  | v :: vs, A, b :: B, C, h => by
    have h2 : B.length = vs.length := by simpa using h
    have e : (A ++ (b :: B ++ C)).set A.length v = (A ++ [v]) ++ (B ++ C) := by
      rw [List.set_append_right _ _ (Nat.le_refl _)]
      simp
    rw [putAt, e]
    have := putAt_mid vs (A ++ [v]) B C h2
    rw [show (A ++ [v]).length = A.length + 1 by simp] at this
    rw [this]
    simp
theorem own_setCells {base e size g n cap : Nat} : ∀ (vs : List Value) (o : Nat) (w : World) (xs : List Value), w.ownsRow base e size (.slice (some ⟨g, 0, none⟩) n cap) n xs →
    (w.setCells g o vs).ownsRow base e size (.slice (some ⟨g, 0, none⟩) n cap) n (putAt xs o vs) ∧ w.grownBy (w.setCells g o vs) (some g)
  | [], o, w, xs, h => ⟨h, World.grownBy.refl w _⟩
  | v :: vs, o, w, xs, h => by
    obtain ⟨h1, h2⟩ := h.stored o v
    obtain ⟨h3, h4⟩ := own_setCells vs (o + 1) _ _ h1
    exact ⟨h3, only_trans h2 h4⟩
theorem own_there {base e size g n cap o m : Nat} {w : World} {xs : List Value} (h : w.ownsRow base e size (.slice (some ⟨g, 0, none⟩) n cap) n xs) (hm : o + m ≤ xs.length) : w.there g o m := fun j hj => ⟨by
  rw [h.cellAt (o + j) (by rw [← h.1]; omega), List.getElem?_eq_getElem (by omega)]; rfl, h.frozenAt _⟩
theorem own_type {w : World} {base : Nat} {e : TypeId} {size n : Nat} {v : Value} {xs : List Value} (h : w.ownsRow base e size v n xs) {g : Nat} (hg : v.ownBlock = some g) : ∃ cur, w.heap[g]? = some (.cells cur e (0, 0)) := by
  rcases h.2 with ⟨rfl, _⟩ | ⟨g', cap, cur, rfl, _, hc, _⟩
  · simp [Value.ownBlock] at hg
  · simp [Value.ownBlock] at hg
    subst hg
    exact ⟨cur, hc⟩
theorem own_apart {W : World} {b b' s s' n n' : Nat} {e e' : TypeId} {v v' : Value} {xs xs' : List Value} (h : W.ownsRow b e s v n xs) (h' : W.ownsRow b' e' s' v' n' xs') (ne : e ≠ e') : ∀ g, v.ownBlock = some g → v'.ownBlock ≠ some g := by
  intro g hg hg'
  obtain ⟨cur, h1⟩ := own_type h hg
  obtain ⟨cur', h2⟩ := own_type h' hg'
  rw [h1] at h2
  simp only [Option.some.injEq, Obj.cells.injEq] at h2
  exact ne h2.2.1
theorem kept_of {W W' : World} {b s n : Nat} {e : TypeId} {v v' : Value} {xs : List Value} (h : W.ownsRow b e s v n xs) (hg : W.grownBy W' v'.ownBlock) (ha : ∀ g, v.ownBlock = some g → v'.ownBlock ≠ some g) : W'.ownsRow b e s v n xs := by
  refine h.kept hg ?_
  cases hv : v.ownBlock with
  | none => exact .inl rfl
  | some g => exact .inr (fun e => ha g hv e.symm)
theorem own_lower {w : World} {base base' : Nat} {e : TypeId} {size n : Nat} {v : Value} {xs : List Value} (h : w.ownsRow base e size v n xs) (hb : base' ≤ base) : w.ownsRow base' e size v n xs :=
  ⟨h.1, h.2.elim Or.inl (fun ⟨g, cap, cur, hv, hg, r⟩ => Or.inr ⟨g, cap, cur, hv, Nat.le_trans hb hg, r⟩)⟩
theorem own_cap {w : World} {base : Nat} {e : TypeId} {size n g cg : Nat} {xs : List Value} (h : w.ownsRow base e size (.slice (some ⟨g, 0, none⟩) n cg) n xs) : n ≤ cg := by
  rcases h.2 with ⟨h, _⟩ | ⟨g', cap, cur, h, _, _, hnc, _⟩
  · cases h
  · injection h with h1 h2 h3; omega
theorem own_reads_cap {w : World} {base : Nat} {e : TypeId} {size n : Nat} {v : Value} {xs : List Value} (h : w.ownsRow base e size v n xs) : ∃ A c, v = .slice A n c ∧ Reads w w.heap.size size A n xs ∧ n ≤ c := by
  rcases Nat.eq_zero_or_pos n with h0 | h0
  · obtain ⟨A, c, hv, hr⟩ := own_reads h
    exact ⟨A, c, hv, hr, by omega⟩
  · obtain ⟨g, c, rfl, _, _⟩ := h.form h0
    exact ⟨_, _, rfl, Reads.of_own h, own_cap h⟩
theorem infoG : (Try.prog.info? 78).map (fun i => (i.zero, i.size, i.bytes)) = some (some (.agg #[.string .empty, .bool false, .int .i64 0]), 3, 32) := by kernel_rfl
theorem info9 : (Try.prog.info? 9).map (fun i => (i.zero, i.size, i.bytes)) = some (some (.string .empty), 1, 16) := by kernel_rfl
theorem infoC : (Try.prog.info? 61).map (fun i => (i.zero, i.size, i.bytes)) = some (some (.agg #[.int .i64 0, .int .i64 0, .int .i64 0, .int .i64 0, .int .i64 0, .slice none 0 0]), 6, 64) := by kernel_rfl
theorem infoU : (Try.prog.info? 25).map (fun i => (i.zero, i.size, i.bytes)) = some (some (.agg #[.slice none 0 0, .slice none 0 0, .int .i64 0, .int .i64 0, .int .i64 0]), 5, 72) := by kernel_rfl
/-- A row that the call made. -/
def Q.Out (e size : Nat) (n : Nat) (xs : List Value) (w w' : World) (en : Ending) : Prop := ∃ v, en = .returned v ∧ w'.ownsRow w.heap.size e size v n xs ∧ Below w.heap.size w w'
set_option maxHeartbeats 1000000 in
theorem clone_any (A : Option Addr) (cap B : Nat) (l : List R.G) (w : World) (hr : Reads w B 3 A l.length (R.gcs l)) (hB : B ≤ w.heap.size) (hl : l.length ≤ 1000) :
    Calls Try.prog 54 #[.slice A l.length cap] w fun e w' => Q.Out 78 3 l.length (R.gcs l) w w' e := by
  have hq := fun w A n => Lib.run_eql_slice_nil (P := Try.prog) w 59 78 A n cap 0 0 Try.underlying59
  cases A with
  | none =>
    have h0 : l.length = 0 := by
      rcases Nat.eq_zero_or_pos l.length with h | h
      · exact h
      · obtain ⟨ad, h, _⟩ := hr.2 h; cases h
    have : l = [] := List.eq_nil_of_length_eq_zero h0
    subst this
    clear hr h0
    go_enter Try.func54, Try.ntmps54
    go_wp2
    go_ret
    exact ⟨_, rfl, World.ownsRow_nil _ _ _ _, Below.refl _ _⟩
  | some ad =>
    have HR1 := (hr.alloc hB (.cells #[] 78))
    have own0 := World.ownsRow_lit (base := w.heap.size) (e := 78) (size := 3) w #[] 0 (Nat.le_refl _) (by decide) rfl
    have hb0 : Below w.heap.size w (w.alloc (.cells #[] 78)) := (Below.refl _ _).alloc (Nat.le_refl _) _
    obtain ⟨i0, hi0, hz0, hz1, hz2⟩ := info_parts infoG
    clear hr
    go_enter Try.func54, Try.ntmps54
    go_wp2_with (at_builtin; refine wpList_append_any _ rfl (.tmp 5) (.tmp 6) _ rfl w.heap.size 78 i0 _ 3 32 Try.underlying59 hi0 hz0 hz1 hz2 rfl (by omega) (.slice (some ⟨w.heap.size, 0, none⟩) 0 0) 0 [] rfl own0 B (some ad) l.length cap _ rfl HR1 (R.gcs_one _) (by simp only [maxLen]; omega) (by omega) hb0.size ?_; intro v1 w1 hown1 hg1 hat1)
    simp only [Nat.zero_add, List.nil_append] at hown1
    go_ret
    exact ⟨_, rfl, hown1, hb0.grown hg1 hb0.size (own_below own0 (Nat.le_refl _))⟩
set_option maxHeartbeats 1000000 in
theorem clonestr_any (A : Option Addr) (cap B : Nat) (l : List ByteArray) (w : World) (hr : Reads w B 1 A l.length (l.map Value.string)) (hB : B ≤ w.heap.size) (hl : l.length ≤ 1000) :
    Calls Try.prog 53 #[.slice A l.length cap] w fun e w' => Q.Out 9 1 l.length (l.map Value.string) w w' e := by
  have hq := fun w A n => Lib.run_eql_slice_nil (P := Try.prog) w 22 9 A n cap 0 0 Try.underlying22
  cases A with
  | none =>
    have h0 : l.length = 0 := by
      rcases Nat.eq_zero_or_pos l.length with h | h
      · exact h
      · obtain ⟨ad, h, _⟩ := hr.2 h; cases h
    have : l = [] := List.eq_nil_of_length_eq_zero h0
    subst this
    clear hr h0
    go_enter Try.func53, Try.ntmps53
    go_wp2
    go_ret
    exact ⟨_, rfl, World.ownsRow_nil _ _ _ _, Below.refl _ _⟩
  | some ad =>
    have HR1 := (hr.alloc hB (.cells #[] 9))
    have own0 := World.ownsRow_lit (base := w.heap.size) (e := 9) (size := 1) w #[] 0 (Nat.le_refl _) (by decide) rfl
    have hb0 : Below w.heap.size w (w.alloc (.cells #[] 9)) := (Below.refl _ _).alloc (Nat.le_refl _) _
    have hone : ∀ u ∈ l.map Value.string, u.oneCell' = true := fun u hu => by obtain ⟨s, _, rfl⟩ := List.mem_map.1 hu; rfl
    obtain ⟨i0, hi0, hz0, hz1, hz2⟩ := info_parts info9
    clear hr
    go_enter Try.func53, Try.ntmps53
    go_wp2_with (at_builtin; refine wpList_append_any _ rfl (.tmp 5) (.tmp 6) _ rfl w.heap.size 9 i0 _ 1 16 Try.underlying22 hi0 hz0 hz1 hz2 rfl (by omega) (.slice (some ⟨w.heap.size, 0, none⟩) 0 0) 0 [] rfl own0 B (some ad) l.length cap _ rfl HR1 hone (by simp only [maxLen]; omega) (by omega) hb0.size ?_; intro v1 w1 hown1 hg1 hat1)
    simp only [Nat.zero_add, List.nil_append] at hown1
    go_ret
    exact ⟨_, rfl, hown1, hb0.grown hg1 hb0.size (own_below own0 (Nat.le_refl _))⟩
end Go.Proofs.Ytfjkelngdljikaa
