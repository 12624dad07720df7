/-
  The statements of layer 29: AssignmentShift. By an AI agent.
-/
import Derived.Lib.SliceRun
import Derived.Laws.CopyOwn
import Derived.Test.YtnekhlklflgodaaOmt
namespace Go.Proofs.Ytnekhlklflgodaa
open Go.RowKit

/-- All rows lie below B. -/
def C.Lo (B : Nat) (v : Value) (rs : List (Option Addr × Nat × List Int)) : Prop := (∀ r ∈ rs, ∀ g, (C.slv r).ownBlock = some g → g < B) ∧ ∀ g, v.ownBlock = some g → g < B
theorem C.Om.lo {w : World} {base : Nat} {v : Value} {rs : List (Option Addr × Nat × List Int)} (h : C.Om w base v rs) : C.Lo w.heap.size v rs := ⟨fun r hr g e => ((h.row r hr).lt g e).2, fun g e => (h.out.lt g e).2⟩
theorem C.Lo.set {B : Nat} {v : Value} {rs : List (Option Addr × Nat × List Int)} (h : C.Lo B v rs) {i : Nat} (hi : i < rs.length) (j : Nat) (x : Int) : C.Lo B v (rs.set i (rs[i].1, rs[i].2.1, rs[i].2.2.set j x)) := by
  refine ⟨fun r hr g e => ?_, h.2⟩
  rcases List.mem_or_eq_of_mem_set hr with hr | hr
  · exact h.1 r hr g e
  · subst hr
    exact h.1 _ (List.getElem_mem hi) g (by simpa [C.slv] using e)
theorem C.Om.other {w : World} {base : Nat} {v : Value} {rs : List (Option Addr × Nat × List Int)} (h : C.Om w base v rs) {p : Addr} (hr : ∀ r ∈ rs, (C.slv r).ownBlock ≠ some p.block) (hv : v.ownBlock ≠ some p.block) (x : Value) : C.Om (w.setCell p x) base v rs := by
  have hg : w.grownBy (w.setCell p x) (some p.block) := only_setCell ⟨rfl, rfl, rfl, Nat.le_refl _, fun _ _ _ => rfl⟩ (.inl rfl) x
  exact ⟨h.out.kept hg (.inr hv), fun r hr' => (h.row r hr').kept hg (.inr (hr r hr')), h.dis, h.dio, h.ne⟩
theorem C.Om.otherLo {w : World} {base : Nat} {v : Value} {rs : List (Option Addr × Nat × List Int)} (h : C.Om w base v rs) {p : Addr} (hp : p.block < base) (x : Value) : C.Om (w.setCell p x) base v rs :=
  h.other (fun r hr e => by have := ((h.row r hr).lt _ e).1; omega) (fun e => by have := (h.out.lt _ e).1; omega) x
theorem C.Om.otherHi {w : World} {base B : Nat} {v : Value} {rs : List (Option Addr × Nat × List Int)} (h : C.Om w base v rs) (hl : C.Lo B v rs) {p : Addr} (hp : B ≤ p.block) (x : Value) : C.Om (w.setCell p x) base v rs :=
  h.other (fun r hr e => by have := hl.1 r hr _ e; omega) (fun e => by have := hl.2 _ e; omega) x
/-- A table and what was added to it. -/
structure C.Sh (n : Nat) (m t : List (List Int)) (f : Nat → Nat → Int) : Prop where
  len : t.length = n
  row : ∀ r ∈ t, r.length = n
  eq : ∀ a b, a < n → b < n → C.at2 t a b = C.at2 m a b + f a b
theorem C.Sh.step {n : Nat} {m t : List (List Int)} {f g : Nat → Nat → Int} (h : C.Sh n m t f) {a b : Nat} (ha : a < n) (hb : b < n) (x : Int) (hg : ∀ c d, c < n → d < n → g c d = if c = a ∧ d = b then f c d + x else f c d) : C.Sh n m (C.turn t a b (C.at2 t a b + x)) g := by
  refine ⟨by rw [C.turn_len]; exact h.len, C.turn_row _ _ _ h.row, fun c d hc hd => ?_⟩
  rw [C.turn_at _ h.row (by rw [h.len]; exact ha) hb, hg c d hc hd]
  by_cases e : c = a ∧ d = b
  · rw [if_pos e, if_pos e, e.1, e.2, h.eq a b ha hb]; omega
  · rw [if_neg e, if_neg e]; exact h.eq c d hc hd
theorem C.Sh.sq {n : Nat} {m t : List (List Int)} {f : Nat → Nat → Int} (h : C.Sh n m t f) (hn : n ≤ 40) (hm : ∀ a b, a < n → b < n → 0 ≤ C.at2 m a b ∧ C.at2 m a b ≤ 1000) (hf : ∀ a b, a < n → b < n → 0 ≤ f a b ∧ f a b ≤ 300) : C.Sq t :=
  C.sq_of_at hn h.len h.row fun a b ha hb => by
    have := hm a b ha hb; have := hf a b ha hb
    rw [h.eq a b ha hb]; omega
theorem C.mtx_at2 (l : List Int) {mo : Int} (h : 0 ≤ mo) (n a b : Nat) (ha : a < n) (hb : b < n) : 0 ≤ C.at2 (C.mtx l mo n n) a b ∧ C.at2 (C.mtx l mo n n) a b ≤ mo := by
  have e : C.at2 (C.mtx l mo n n) a b = C.entry l mo (a * n + b) := by simp [C.at2, C.mtx, C.mrow, List.getD, ha, hb]
  rw [e]
  exact C.entry_range l h _
def C.rowf (k : Nat) (x : Int) (i : Nat) (a b : Nat) : Int := if a = k ∧ b < i then x else 0
def C.colf (k : Nat) (x : Int) (i : Nat) (a b : Nat) : Int := if b = k ∧ a < i then x else 0
theorem C.rowf_step (k : Nat) (x : Int) (i c d : Nat) : C.rowf k x (i + 1) c d = if c = k ∧ d = i then C.rowf k x i c d + x else C.rowf k x i c d := by
  unfold C.rowf
  by_cases h1 : c = k
  · by_cases h2 : d = i
    · rw [if_pos ⟨h1, by omega⟩, if_pos ⟨h1, h2⟩, if_neg (by omega)]; omega
    · rw [if_neg (show ¬ (c = k ∧ d = i) from fun h => h2 h.2)]
      by_cases h3 : d < i
      · rw [if_pos ⟨h1, by omega⟩, if_pos ⟨h1, h3⟩]
      · rw [if_neg (by omega), if_neg (by omega)]
  · rw [if_neg (fun h => h1 h.1), if_neg (fun h => h1 h.1), if_neg (fun h => h1 h.1)]
theorem C.colf_step (k : Nat) (x : Int) (i c d : Nat) : C.colf k x (i + 1) c d = if c = i ∧ d = k then C.colf k x i c d + x else C.colf k x i c d := by
  have := C.rowf_step k x i d c
  unfold C.rowf C.colf at *
  rw [this]
  have e : (d = k ∧ c = i) ↔ (c = i ∧ d = k) := And.comm
  simp only [e]
/-- The assignment of a table in which a row or a column was raised. -/
theorem C.row_best {n : Nat} {m t : List (List Int)} {k : Nat} {x : Int} {i : Nat} (h : C.Sh n m t (C.rowf k x i)) (hi : n ≤ i) (hk : k < n) {N N' : Nat → Nat} (hN : A.Best n (C.cst m) N) (hN' : A.Best n (C.cst t) N') : C.asg n N' = C.asg n N := by
  have b := A.best_shift (c' := fun r j => if r = k + 1 then C.cst m r j + x else C.cst m r j) (b := x) (fun N _ => A.tot_row (k := k + 1) (by omega) x N) hN
  have b2 := A.best_congr (c := fun r j => if r = k + 1 then C.cst m r j + x else C.cst m r j) (c' := C.cst t) (fun r j h1 h2 h3 h4 => by
    rw [C.cst_at2, h.eq _ _ (by omega) (by omega), C.cst_at2]
    unfold C.rowf
    by_cases e : r = k + 1
    · rw [if_pos (by omega)]; simp only [if_pos e]
    · rw [if_neg (by omega)]; simp only [if_neg e]; omega) b
  have u := A.best_unique hN' b2
  unfold C.asg
  refine List.map_congr_left fun r hr => ?_
  rw [u (r + 1) (by omega) (by have := List.mem_range.1 hr; omega)]
theorem C.col_best {n : Nat} {m t : List (List Int)} {k : Nat} {x : Int} {i : Nat} (h : C.Sh n m t (C.colf k x i)) (hi : n ≤ i) (hk : k < n) {N N' : Nat → Nat} (hN : A.Best n (C.cst m) N) (hN' : A.Best n (C.cst t) N') : C.asg n N' = C.asg n N := by
  have e0 : ∀ N, A.Pf n N → A.tot n (fun r j => if j = k + 1 then C.cst m r j + x else C.cst m r j) N = A.tot n (C.cst m) N + x := fun N hN => A.tot_col (k := k + 1) (by omega) x hN
  have b : A.Best n (fun r j => if j = k + 1 then C.cst m r j + x else C.cst m r j) N :=
    ⟨hN.pf, fun N' h' => by rw [e0 _ hN.pf, e0 _ h']; have := hN.min N' h'; omega, fun N' h' ht => hN.lex N' h' (by rw [e0 _ hN.pf, e0 _ h'] at ht; omega)⟩
  have b2 := A.best_congr (c := fun r j => if j = k + 1 then C.cst m r j + x else C.cst m r j) (c' := C.cst t) (fun r j h1 h2 h3 h4 => by
    rw [C.cst_at2, h.eq _ _ (by omega) (by omega), C.cst_at2]
    unfold C.colf
    by_cases e : j = k + 1
    · rw [if_pos (by omega)]; simp only [if_pos e]
    · rw [if_neg (by omega)]; simp only [if_neg e]; omega) b
  have u := A.best_unique hN' b2
  unfold C.asg
  refine List.map_congr_left fun r hr => ?_
  rw [u (r + 1) (by omega) (by have := List.mem_range.1 hr; omega)]
/-- Two assignments are the same. -/
theorem same_asg (B : Nat) (A1 A2 : Option Addr) (c1 c2 : Nat) (n : Nat) (N N' : Nat → Nat) (hn : n ≤ 40) (e0 : C.asg n N' = C.asg n N) (w : World) (ha : Reads w B 1 A1 n (C.ns (C.asg n N))) (hb : Reads w B 1 A2 n (C.ns (C.asg n N'))) :
    Calls Try.prog 15 #[.slice A1 n c1, .slice A2 n c2] w fun e w' => e = .returned (.bool true) ∧ ∃ n, w' = w.drewN n := by
  rw [e0] at hb
  have h := sameints_any B A1 A2 c1 c2 (C.asg n N) (C.asg n N) w (by rw [C.asg_len]; exact ha) (by rw [C.asg_len]; exact hb) (by rw [C.asg_len]; simp only [maxLen]; omega) (by rw [C.asg_len]; simp only [maxLen]; omega)
  rw [C.asg_len] at h
  simpa using h

end Go.Proofs.Ytnekhlklflgodaa
