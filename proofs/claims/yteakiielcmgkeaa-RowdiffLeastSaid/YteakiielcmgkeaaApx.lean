/-
  Apply and the reference's, for any change. By an AI agent.
-/
import Derived.Test.YteakiielcmgkeaaRApp
import Derived.Test.YteakiielcmgkeaaSpl
namespace Go.Proofs.Yteakiielcmgkeaa
set_option linter.unusedSimpArgs false
set_option linter.unusedVariables false
open Go.RowKit

theorem apply_any (A : Option Addr) (c B : Nat) (l : List R.G) (x : R.Cs) (Ag : Option Addr) (cg : Nat) (w : World) (hsl : x.sl = .slice Ag x.c.gl.length cg) (hr : Reads w B 3 A l.length (R.gcs l)) (hg : Reads w B 3 Ag x.c.gl.length (R.gcs x.c.gl)) (hB : B ≤ w.heap.size) (hl : l.length ≤ 500) (hc : l.length ≤ c) (hgl : x.c.gl.length ≤ 200) (h1 : -9223372036854775808 ≤ x.c.col) (h2 : x.c.col ≤ 9223372036854775807) :
    Calls Try.prog 22 #[.slice A l.length c, .agg x.cells.toArray] w fun e w' => R.AOut (R.applyX l x.c) w w' e := by
  obtain ⟨⟨kind, row, col, count, to, gl⟩, sl⟩ := x
  simp only at hsl hg hgl h1 h2
  subst hsl
  by_cases hk : kind = 3
  · subst hk
    by_cases hbad : col < 0 ∨ count < 0 ∨ 264 < col ∨ max 0 ((l.length : Int) - col) < count
    · rw [R.applyX_bad hbad]
      exact apply_bad A Ag c cg l gl row col count to w (by omega) h1 h2 hbad
    · obtain ⟨k, rfl⟩ : ∃ k : Nat, col = k := ⟨col.toNat, by omega⟩
      obtain ⟨d, rfl⟩ : ∃ d : Nat, count = d := ⟨count.toNat, by omega⟩
      rw [R.applyX_good (by omega) (by omega)]
      exact apply_good A Ag c cg B l gl row to k d w hr hg hB hl hc hgl (by omega) (by omega)
  · rw [R.applyX_kind hk]
    exact apply_kind A Ag c cg l gl kind row col count to w hk
theorem refapply_any (A : Option Addr) (c B : Nat) (l : List R.G) (x : R.Cs) (Ag : Option Addr) (cg : Nat) (w : World) (hsl : x.sl = .slice Ag x.c.gl.length cg) (hr : Reads w B 3 A l.length (R.gcs l)) (hg : Reads w B 3 Ag x.c.gl.length (R.gcs x.c.gl)) (hB : B ≤ w.heap.size) (hl : l.length ≤ 500) (hgl : x.c.gl.length ≤ 200) (h1 : -9223372036854775808 ≤ x.c.col) (h2 : x.c.col ≤ 9223372036854775807) :
    Calls Try.prog 23 #[.slice A l.length c, .agg x.cells.toArray] w fun e w' => R.AOut (R.applyX l x.c) w w' e := by
  obtain ⟨⟨kind, row, col, count, to, gl⟩, sl⟩ := x
  simp only at hsl hg hgl h1 h2
  subst hsl
  by_cases hk : kind = 3
  · subst hk
    by_cases hbad : col < 0 ∨ count < 0 ∨ 264 < col ∨ max 0 ((l.length : Int) - col) < count
    · rw [R.applyX_bad hbad]
      exact refapply_bad A Ag c cg l gl row col count to w (by omega) h1 h2 hbad
    · obtain ⟨k, rfl⟩ : ∃ k : Nat, col = k := ⟨col.toNat, by omega⟩
      obtain ⟨d, rfl⟩ : ∃ d : Nat, count = d := ⟨count.toNat, by omega⟩
      rw [R.applyX_good (by omega) (by omega)]
      exact refapply_good A Ag c cg B l gl row to k d w hr hg hB hl hgl (by omega) (by omega)
  · rw [R.applyX_kind hk]
    exact refapply_kind A Ag c cg l gl kind row col count to w hk
namespace R
theorem apply_some {l r : List G} {c : Ch G} {row : Int} (h : apply bl sp l c = some r) : applyX l (Cx.of row c) = (r, 0) := by
  unfold apply at h
  split at h
  · cases h
  · rename_i hn
    injection h with h
    unfold applyX Cx.of
    dsimp only
    rw [if_neg (by simp), if_neg hn, h]
theorem apply_len {l r : List G} {c : Ch G} (h : apply bl sp l c = some r) : r.length ≤ max l.length 264 + c.gl.length ∧ 0 ≤ c.count ∧ 0 ≤ c.col ∧ c.col ≤ 264 := by
  unfold apply at h
  split at h
  · cases h
  · rename_i hn
    injection h with h
    rw [← h]
    have := trim_length bl (body sp l c)
    have hb : (body sp l c).length ≤ max l.length 264 + c.gl.length := by
      unfold body
      simp only [List.length_append, List.length_take, List.length_replicate, List.length_drop]
      omega
    omega
theorem applyAll_step {l r : List G} {cs : List (Ch G)} {k : Nat} (hk : k < cs.length) (h : applyAll bl sp l (cs.drop k) = some r) : ∃ m, apply bl sp l cs[k] = some m ∧ applyAll bl sp m (cs.drop (k + 1)) = some r := by
  rw [List.drop_eq_getElem_cons hk, applyAll] at h
  split at h
  · cases h
  · rename_i m hm
    exact ⟨m, hm, h⟩
def glsum (l : List (Ch G)) : Nat := (l.map fun c => c.gl.length).sum
theorem glsum_take {l : List (Ch G)} {k : Nat} (h : k < l.length) : glsum (l.take (k + 1)) = glsum (l.take k) + l[k].gl.length := by
  unfold glsum
  rw [List.take_succ_eq_append_getElem h, List.map_append, List.sum_append]
  simp only [List.map_cons, List.map_nil, List.sum_cons, List.sum_nil, Nat.add_zero]
theorem glsum_le (l : List (Ch G)) (k : Nat) : glsum (l.take k) ≤ glsum l := by
  have e : glsum l = glsum (l.take k) + glsum (l.drop k) := by
    unfold glsum
    rw [← List.sum_append, ← List.map_append, List.take_append_drop]
  omega
theorem glsum_sum {l : List (Ch G)} (h : ∀ c ∈ l, 0 ≤ c.count) : (glsum l : Int) ≤ sum l := by
  induction l with
  | nil => simp [glsum, sum]
  | cons c l ih =>
    have h1 := h c (by simp)
    have := ih (fun x hx => h x (by simp [hx]))
    simp only [glsum, sum, List.map_cons, List.sum_cons] at this ⊢
    omega
theorem ofEd_count (l : List (E.Ed G)) (h : ∀ x ∈ l, 0 ≤ x.del) : ∀ m, ∀ c ∈ ofEd m l, 0 ≤ c.count := by
  induction l with
  | nil => intro m c hc; cases hc
  | cons e l ih =>
    intro m c hc
    simp only [ofEd, List.mem_cons] at hc
    rcases hc with rfl | hc
    · exact h e (by simp)
    · exact ih (fun x hx => h x (by simp [hx])) _ c hc
theorem glsum_splices {a b : List G} (la : a.length ≤ 100) (lb : b.length ≤ 100) : glsum (splices bl a b) ≤ 200 := by
  have ta := trim_length bl a
  have tb := trim_length bl b
  rcases sum_dist bl a b with h | ⟨h, _⟩
  · have hc : ∀ c ∈ splices bl a b, 0 ≤ c.count := by
      unfold splices
      split
      · intro c hc; simp only [List.mem_singleton] at hc; subst hc; simp [repl]
      · exact ofEd_count _ (fun x hx => ((script_lowG (a := trimEnd bl a) (b := trimEnd bl b) (by omega) (by omega)).2 x hx).2.1) 0
    have h1 := glsum_sum hc
    have := E.dist_int (trimEnd bl a) (trimEnd bl b)
    omega
  · rw [h]
    simp [glsum, repl]
    omega
end R
end Go.Proofs.Yteakiielcmgkeaa
