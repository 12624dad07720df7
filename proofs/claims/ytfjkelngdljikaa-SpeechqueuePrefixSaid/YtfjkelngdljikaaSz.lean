/-
  The walks of layer 44: an utterance against the zero utterance; the reference's New. By an AI agent.
-/
import Derived.Test.YtfjkelngdljikaaCh2
import Derived.Deep.QuietTactic
import Derived.BigQuiet
namespace Go.Proofs.Ytfjkelngdljikaa
set_option linter.unusedVariables false
open Go.RowKit Go.Deep

theorem cell_of_block_ {W : World} {g i : Nat} {cs : Array Value} {t : TypeId} (h : W.heap[g]? = some (.cells cs t (0, 0))) : W.cell? ⟨g, i, none⟩ = cs[i]? := cell_of_row W g i cs t (0, 0) h
theorem heap_old2 (w : World) (o : Obj) {n : Nat} {x : Obj} (h : w.heap[n]? = some x) : (w.alloc o).heap[n]? = some x := by
  rw [Below.heap_alloc w o n (Array.getElem?_eq_some_iff.1 h).1]; exact h
theorem Q.ne_zero {u : Q.Ut} (h : u.words.length ≠ 0 ∨ u.chs.length ≠ 0 ∨ u.cl ≠ 0 ∨ u.af ≠ 0 ∨ u.up ≠ 0) : decide (u = Q.zero) = false := decide_eq_false (fun e => by
  subst e
  simp [Q.zero] at h)
theorem Q.eq_zero {u : Q.Ut} (h0 : u.words.length = 0) (h1 : u.chs.length = 0) (h2 : u.cl = 0) (h3 : u.af = 0) (h4 : u.up = 0) : decide (u = Q.zero) = true := decide_eq_true (by
  obtain ⟨ws, cs, cl, af, up⟩ := u
  simp only at h0 h1 h2 h3 h4
  rw [List.eq_nil_of_length_eq_zero h0, List.eq_nil_of_length_eq_zero h1, h2, h3, h4]; rfl)
set_option maxRecDepth 100000 in
set_option maxHeartbeats 1500000 in
theorem samezero_any (m : Q.Um) (w : World) (hw : m.u.words.length ≤ maxLen) (hc : m.u.chs.length ≤ maxLen) :
    Calls Try.prog 29 #[.agg m.cells.toArray, .agg #[.slice none 0 0, .slice none 0 0, .int .i64 0, .int .i64 0, .int .i64 0]] w fun e w' => e = .returned (.bool (decide (m.u = Q.zero))) ∧ Below w.heap.size w w' := by
  obtain ⟨u, aw, cw, ac, cc⟩ := m
  simp only [Q.Um.cells]
  simp only at hw hc
  have NO := Lib.hid (fun h => Q.ne_zero (u := u) h)
  have YES := Lib.hid (fun h0 h1 h2 h3 h4 => Q.eq_zero (u := u) h0 h1 h2 h3 h4)
  generalize decide (u = Q.zero) = d at *
  generalize u.words.length = z1 at *
  generalize u.chs.length = z4 at *
  generalize u.cl = z6 at *
  generalize u.af = z7 at *
  generalize u.up = z8 at *
  unfold maxLen at hw hc
  have B0 := Lib.hid ((below_box w (.cells #[.slice aw z1 cw, .slice ac z4 cc, .int .i64 z6, .int .i64 z7, .int .i64 z8] 25)).alloc (by simp) (.cells #[.slice none 0 0, .slice none 0 0, .int .i64 0, .int .i64 0, .int .i64 0] 25))
  by_cases h2 : z6 = 0
  case neg =>
    have H := Lib.hid (NO.out (.inr (.inr (.inl h2))))
    have hb : (z6 != 0) = true := bne_iff_ne.2 h2
    clear NO YES h2
    go_enter Try.func29, Try.ntmps29
    go_wp2_with fail
    go_ret
    exact ⟨ret_bool H.out.symm, B0.out⟩
  by_cases h3 : z7 = 0
  case neg =>
    have H := Lib.hid (NO.out (.inr (.inr (.inr (.inl h3)))))
    have hb : (z7 != 0) = true := bne_iff_ne.2 h3
    subst h2
    clear NO YES h3
    go_enter Try.func29, Try.ntmps29
    go_wp2_with fail
    go_ret
    exact ⟨ret_bool H.out.symm, B0.out⟩
  by_cases h4 : z8 = 0
  case neg =>
    have H := Lib.hid (NO.out (.inr (.inr (.inr (.inr h4)))))
    have hb : (z8 != 0) = true := bne_iff_ne.2 h4
    subst h2 h3
    clear NO YES h4
    go_enter Try.func29, Try.ntmps29
    go_wp2_with fail
    go_ret
    exact ⟨ret_bool H.out.symm, B0.out⟩
  by_cases h0 : z1 = 0
  case neg =>
    have H := Lib.hid (NO.out (.inl h0))
    have hb : ((z1 : Int) != 0) = true := bne_iff_ne.2 (by omega)
    subst h2 h3 h4
    clear NO YES h0
    go_enter Try.func29, Try.ntmps29
    go_wp2_with fail
    go_ret
    exact ⟨ret_bool H.out.symm, B0.out⟩
  by_cases h1 : z4 = 0
  case neg =>
    have H := Lib.hid (NO.out (.inr (.inl h1)))
    have hb : ((z4 : Int) != 0) = true := bne_iff_ne.2 (by omega)
    subst h2 h3 h4 h0
    clear NO YES h1
    go_enter Try.func29, Try.ntmps29
    go_wp2_with fail
    go_ret
    exact ⟨ret_bool H.out.symm, B0.out⟩
  have H := Lib.hid (YES.out h0 h1 h2 h3 h4)
  subst h2 h3 h4 h0 h1
  clear NO YES
  go_enter Try.func29, Try.ntmps29
  go_wp2_with fail
  go_loopw [5] (fun v wr => v = .int .i64 0 ∧ wr = (w.alloc (.cells #[.slice aw 0 cw, .slice ac 0 cc, .int .i64 0, .int .i64 0, .int .i64 0] 25)).alloc (.cells #[.slice none 0 0, .slice none 0 0, .int .i64 0, .int .i64 0, .int .i64 0] 25)) (fun _ _ => 0)
  case atStart => exact ⟨rfl, rfl⟩
  case round =>
    obtain ⟨rfl, rfl⟩ := hrel
    go_wp2_with fail
    go_loopw [6] (fun v wr => v = .int .i64 0 ∧ wr = (w.alloc (.cells #[.slice aw 0 cw, .slice ac 0 cc, .int .i64 0, .int .i64 0, .int .i64 0] 25)).alloc (.cells #[.slice none 0 0, .slice none 0 0, .int .i64 0, .int .i64 0, .int .i64 0] 25)) (fun _ _ => 0)
    case atStart => exact ⟨rfl, rfl⟩
    case round =>
      obtain ⟨rfl, rfl⟩ := hrel
      go_wp2_with fail
      go_ret
      exact ⟨ret_bool H.out.symm, B0.out⟩
/-- The cells of an empty queue. -/
abbrev Q.new (t r : Int) : Array Value := #[.int .i64 t, .int .i64 r, .bool false, .slice none 0 0, .slice none 0 0, .int .i64 0, .int .i64 0, .int .i64 0, .int .i64 0, .int .i64 0, .slice none 0 0]
theorem refnew_bad (t r : Int) (w : World) (h : t < 0 ∨ 1099511627776 < t ∨ r < 25 ∨ 400 < r) :
    Calls Try.prog 22 #[.int .i64 t, .int .i64 r] w fun e w' => e = .returned (.tuple #[.agg (Q.new 0 0), .int .i64 2]) ∧ Below w.heap.size w w' := by
  by_cases h0 : t < 0
  · go_enter Try.func22, Try.ntmps22
    go_wp2_with fail
    exact bodyPost_ret (v := .tuple #[.agg (Q.new 0 0), .int .i64 2]) (by simp [results, Try.results22, go_sem]) rfl ⟨rfl, below_box _ _⟩
  · by_cases h1 : 1099511627776 < t
    · go_enter Try.func22, Try.ntmps22
      go_wp2_with fail
      exact bodyPost_ret (v := .tuple #[.agg (Q.new 0 0), .int .i64 2]) (by simp [results, Try.results22, go_sem]) rfl ⟨rfl, below_box _ _⟩
    · by_cases h2 : r < 25
      · go_enter Try.func22, Try.ntmps22
        go_wp2_with fail
        exact bodyPost_ret (v := .tuple #[.agg (Q.new 0 0), .int .i64 2]) (by simp [results, Try.results22, go_sem]) rfl ⟨rfl, below_box _ _⟩
      · have h3 : 400 < r := by omega
        go_enter Try.func22, Try.ntmps22
        go_wp2_with fail
        exact bodyPost_ret (v := .tuple #[.agg (Q.new 0 0), .int .i64 2]) (by simp [results, Try.results22, go_sem]) rfl ⟨rfl, below_box _ _⟩
theorem refnew_good (t r : Int) (w : World) (h : ¬ (t < 0 ∨ 1099511627776 < t ∨ r < 25 ∨ 400 < r)) :
    Calls Try.prog 22 #[.int .i64 t, .int .i64 r] w fun e w' => e = .returned (.tuple #[.agg (Q.new t r), .int .i64 0]) ∧ Below w.heap.size w w' := by
  have h0 : ¬ t < 0 := by omega
  have h1 : ¬ 1099511627776 < t := by omega
  have h2 : ¬ r < 25 := by omega
  have h3 : ¬ 400 < r := by omega
  go_enter Try.func22, Try.ntmps22
  go_wp2_with fail
  exact bodyPost_ret (v := .tuple #[.agg (Q.new t r), .int .i64 0]) (by simp [results, Try.results22, go_sem]) rfl ⟨rfl, below_box _ _⟩
end Go.Proofs.Ytfjkelngdljikaa
