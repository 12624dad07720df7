/-
  Layer 43: the three laws about single words. By an AI agent.
-/
import Derived.Test.YtfcanmicjpjjoaaWalks2
namespace Go.Proofs.Ytfcanmicjpjjoaa
open Go.RowKit

theorem slower_any (s : ByteArray) (r m : Int) (w : World) (hm : s.size ≤ 140737488351232) (hr1 : -9223372036854775808 ≤ r) (_ : r ≤ 9223372036854775807) (_ : -9223372036854775808 ≤ m) (_ : m ≤ 9223372036854775807) :
    Calls Try.prog 6 #[.string s, .int .i64 r, .int .i64 m] w fun e w' => e = .returned (.bool true) ∧ Below w.heap.size w w' := by
  by_cases h1 : 100 < s.size
  · go_enter Try.func6, Try.ntmps6
    go_wp2_with (go_at_call 12; refine (awake_any _).mono ?_; rintro e w' ⟨rfl, hb⟩)
    go_ret
    exact ⟨rfl, hb⟩
  by_cases h2 : m < 0
  · go_enter Try.func6, Try.ntmps6
    go_wp2_with (go_at_call 12; refine (awake_any _).mono ?_; rintro e w' ⟨rfl, hb⟩)
    go_ret
    exact ⟨rfl, hb⟩
  by_cases h3 : 1099511627776 < r
  · go_enter Try.func6, Try.ntmps6
    go_wp2_with (go_at_call 12; refine (awake_any _).mono ?_; rintro e w' ⟨rfl, hb⟩)
    go_ret
    exact ⟨rfl, hb⟩
  by_cases h4 : 1099511627776 < m
  · go_enter Try.func6, Try.ntmps6
    go_wp2_with (go_at_call 12; refine (awake_any _).mono ?_; rintro e w' ⟨rfl, hb⟩)
    go_ret
    exact ⟨rfl, hb⟩
  have hs : s.size ≤ 100 := by omega
  have hx := D.word_slower s.size (r := r) (r' := r + m) hs (by omega)
  go_enter Try.func6, Try.ntmps6
  go_wp2_with (first
    | (go_at_call 12; refine (awake_any _).mono ?_; rintro e w' ⟨rfl, hb⟩)
    | (go_at_call 14; refine (word_any _ _ _ (Nat.le_trans hs (by decide))).mono ?_; rintro e w' ⟨rfl, rfl⟩))
  go_ret
  exact ⟨rfl, hb⟩

theorem half_any (s : ByteArray) (r : Int) (w : World) (hm : s.size ≤ 140737488351232) (_ : -9223372036854775808 ≤ r) (_ : r ≤ 9223372036854775807) :
    Calls Try.prog 7 #[.string s, .int .i64 r] w fun e w' => e = .returned (.bool true) ∧ Below w.heap.size w w' := by
  by_cases h1 : 100 < s.size
  · go_enter Try.func7, Try.ntmps7
    go_wp2_with (go_at_call 12; refine (awake_any _).mono ?_; rintro e w' ⟨rfl, hb⟩)
    go_ret
    exact ⟨rfl, hb⟩
  by_cases h2 : r < 50
  · go_enter Try.func7, Try.ntmps7
    go_wp2_with (go_at_call 12; refine (awake_any _).mono ?_; rintro e w' ⟨rfl, hb⟩)
    go_ret
    exact ⟨rfl, hb⟩
  by_cases h3 : 400 < r
  · go_enter Try.func7, Try.ntmps7
    go_wp2_with (go_at_call 12; refine (awake_any _).mono ?_; rintro e w' ⟨rfl, hb⟩)
    go_ret
    exact ⟨rfl, hb⟩
  by_cases h4 : r % 2 = 0
  · have hs : s.size ≤ 100 := by omega
    obtain ⟨h, rfl⟩ : ∃ h, r = 2 * h := ⟨r / 2, by omega⟩
    have hx := D.word_half s.size h (by omega) (by omega)
    have hy := D.word_bd s.size h hs
    have hz := D.word_bd s.size (2 * h) hs
    have hq : 2 * h / 2 = h := by omega
    clear h4
    go_enter Try.func7, Try.ntmps7
    go_wp2_with (first
      | (go_at_call 12; refine (awake_any _).mono ?_; rintro e w' ⟨rfl, hb⟩)
      | (go_at_call 14; refine (word_any _ _ _ (Nat.le_trans hs (by decide))).mono ?_; rintro e w' ⟨rfl, rfl⟩))
    go_ret
    exact ⟨rfl, hb⟩
  · have h5 : (r % 2 != 0) = true := by rw [bne_iff_ne]; exact h4
    have h6 : (s.size : Int) ≤ 100 := by omega
    clear h4
    go_enter Try.func7, Try.ntmps7
    go_wp2_with (go_at_call 12; refine (awake_any _).mono ?_; rintro e w' ⟨rfl, hb⟩)
    go_ret
    exact ⟨rfl, hb⟩

theorem longer_any (a b : ByteArray) (r : Int) (w : World) (ha : a.size ≤ 140737488351232) (hb : b.size ≤ 140737488351232) (_ : -9223372036854775808 ≤ r) (_ : r ≤ 9223372036854775807) :
    Calls Try.prog 5 #[.string a, .string b, .int .i64 r] w fun e w' => e = .returned (.bool true) ∧ Below w.heap.size w w' := by
  by_cases h1 : 100 < a.size
  · go_enter Try.func5, Try.ntmps5
    go_wp2_with (go_at_call 12; refine (awake_any _).mono ?_; rintro e w' ⟨rfl, hb⟩)
    go_ret
    exact ⟨rfl, hb⟩
  by_cases h2 : 100 < b.size
  · go_enter Try.func5, Try.ntmps5
    go_wp2_with (go_at_call 12; refine (awake_any _).mono ?_; rintro e w' ⟨rfl, hb⟩)
    go_ret
    exact ⟨rfl, hb⟩
  have hab : (a ++ b).size = a.size + b.size := ByteArray.size_append
  have hs1 : a.size ≤ 1000 := by omega
  have hs2 : (a ++ b).size ≤ 1000 := by omega
  have d1 : decide ((100 : Int) < a.size) = false := by simp; omega
  have d2 : decide ((100 : Int) < b.size) = false := by simp; omega
  have h20 := D.word_bd a.size r (by omega)
  by_cases h3 : b.size = 0
  · have h4 : D.word (a ++ b).size r = D.word a.size r := by rw [hab, h3]; rfl
    have hge : D.word a.size r ≤ D.word (a ++ b).size r := by omega
    have hz : ((b.size : Int) == 0) = true := by simp [h3]
    clear h4 hab h3 h1 h2
    go_enter Try.func5, Try.ntmps5
    go_wp2_with fail
    refine (word_any _ _ _ hs1).mono ?_
    rintro e w' ⟨rfl, rfl⟩
    go_wp2_with fail
    refine (word_any _ _ _ hs2).mono ?_
    rintro e w' ⟨rfl, rfl⟩
    clear ha hb hs1 hs2
    generalize D.word (a ++ b).size r = y at *
    generalize D.word a.size r = x at *
    go_wp2_with (go_at_call 12; refine (awake_any _).mono ?_; rintro e w' ⟨rfl, hb⟩)
    go_ret
    exact ⟨rfl, hb⟩
  · have hgt := D.word_longer a.size (a ++ b).size r (by omega)
    have hz : ((b.size : Int) == 0) = false := by rw [beq_eq_false_iff_ne]; omega
    clear hab h3 h1 h2
    go_enter Try.func5, Try.ntmps5
    go_wp2_with fail
    refine (word_any _ _ _ hs1).mono ?_
    rintro e w' ⟨rfl, rfl⟩
    go_wp2_with fail
    refine (word_any _ _ _ hs2).mono ?_
    rintro e w' ⟨rfl, rfl⟩
    clear ha hb hs1 hs2
    generalize D.word (a ++ b).size r = y at *
    generalize D.word a.size r = x at *
    go_wp2_with (go_at_call 12; refine (awake_any _).mono ?_; rintro e w' ⟨rfl, hb⟩)
    go_ret
    exact ⟨rfl, hb⟩
end Go.Proofs.Ytfcanmicjpjjoaa
