/-
  The walks of layer 43 that layer 44 needs. By an AI agent.
-/
import Derived.Test.YtfjkelngdljikaaProg
import Derived.Test.YtfjkelngdljikaaDPlain
import Derived.Test.YtfjkelngdljikaaBase
namespace Go.Proofs.Ytfjkelngdljikaa
set_option linter.unusedVariables false
set_option linter.unusedSimpArgs false
open Go.RowKit

theorem word_any (s : ByteArray) (r : Int) (w : World) (hs : s.size ≤ 1000) :
    Calls Try.prog 50 #[.string s, .int .i64 r] w fun e w' => e = .returned (.int .i64 (D.word s.size r)) ∧ w = w' := by
  by_cases h1 : r < 25
  · have hl : D.lim r = 25 := by simp [D.lim, h1]
    have H : Hid (D.word s.size r = ((s.size + 2) * 4000 + 25 - 1) / 25) := Lib.hid (by unfold D.word; rw [hl])
    clear hl
    go_enter Try.func50, Try.ntmps50
    go_wp2
    go_ret
    exact ⟨ret_int H.out.symm, rfl⟩
  by_cases h2 : 400 < r
  · have hl : D.lim r = 400 := by simp [D.lim, h1, h2]
    have H : Hid (D.word s.size r = ((s.size + 2) * 4000 + 400 - 1) / 400) := Lib.hid (by unfold D.word; rw [hl])
    clear hl
    go_enter Try.func50, Try.ntmps50
    go_wp2
    go_ret
    exact ⟨ret_int H.out.symm, rfl⟩
  · have hl : D.lim r = r := by simp [D.lim, h1, h2]
    have H : Hid (D.word s.size r = ((s.size + 2) * 4000 + r - 1) / r) := Lib.hid (by unfold D.word; rw [hl])
    clear hl
    go_enter Try.func50, Try.ntmps50
    go_wp2
    go_ret
    exact ⟨ret_int H.out.symm, rfl⟩

theorem total_any (b n : Nat) (x y : Int) (w : World) (hx : 0 ≤ x) (hy : 0 ≤ y) (hxy : x + y ≤ 1000000000) (c0 : w.cell? ⟨b, 0, none⟩ = some (.int .i64 x)) (c1 : w.cell? ⟨b, 1, none⟩ = some (.int .i64 y)) :
    Calls Try.prog 49 #[.slice (some ⟨b, 0, none⟩) 2 n] w fun e w' => e = .returned (.int .i64 (x + y)) ∧ w = w' := by
  go_enter Try.func49, Try.ntmps49
  go_wp2
  refine wp_loop_rounds 3 ?_
  rw [rounds_succ]
  go_wp2
  rw [rounds_succ]
  go_wp2
  rw [rounds_succ]
  go_wp2
  go_ret
  exact ⟨rfl, rfl⟩

theorem take_words (ss : List ByteArray) (k : Nat) (h : k < ss.length) (r : Int) :
    D.words ((ss.take (k + 1)).map (·.size)) r = D.words ((ss.take k).map (·.size)) r + D.word (ss[k]).size r := by
  rw [List.take_succ_eq_append_getElem h, List.map_append, D.words_append]; simp [D.words]

theorem take_bd (ss : List ByteArray) (k : Nat) (r : Int) (hl : ss.length ≤ 120) (hs : ∀ s ∈ ss, s.size ≤ 100) :
    0 ≤ D.words ((ss.take k).map (·.size)) r ∧ D.words ((ss.take k).map (·.size)) r ≤ 16320 * 120 := by
  have h := D.words_bd ((ss.take k).map (·.size)) r (by intro n hn; simp only [List.mem_map] at hn; obtain ⟨x, hx, rfl⟩ := hn; exact hs x (List.mem_of_mem_take hx))
  simp only [List.length_map, List.length_take] at h
  omega

theorem words_any (A : Option Addr) (c B : Nat) (ss : List ByteArray) (r : Int) (w : World) (hr : Reads w B 1 A ss.length (ss.map Value.string)) (hB : B ≤ w.heap.size) (hl : ss.length ≤ 120) (hs : ∀ s ∈ ss, s.size ≤ 100) :
    Calls Try.prog 30 #[.slice A ss.length c, .int .i64 r] w fun e w' => e = .returned (.int .i64 (D.words (ss.map (·.size)) r)) ∧ Below w.heap.size w w' := by
  go_enter Try.func30, Try.ntmps30
  go_wp2
  go_loopw [5, 10] (fun n i wr => ∃ k : Nat, k ≤ ss.length ∧ i = .int .i64 k ∧ n = .int .i64 (D.words ((ss.take k).map (·.size)) r) ∧ Below w.heap.size w wr) (fun _ i _ => ss.length - (intOf i).toNat)
  case atStart => exact ⟨0, Nat.zero_le _, rfl, rfl, Below.refl _ _⟩
  case round =>
    obtain ⟨k, hk, rfl, rfl, hb⟩ := hrel
    by_cases hlt : k < ss.length
    · obtain ⟨ad, rfl, hlo, hc⟩ := hr.2 (by omega)
      have hcell : wr.cell? (ad.add k) = some (.string ss[k]) := (hb.cell (by rw [block_of_add]; omega)).trans (hc k _ (by simp [hlt]))
      have hsz : (ss[k]).size ≤ 100 := hs _ (List.getElem_mem hlt)
      have h0 := take_bd ss k r hl hs
      have HS := Lib.hid (take_words ss k hlt r)
      have h1 := D.word_bd (ss[k]).size r hsz
      generalize ss[k] = s at *
      clear hc hs hr
      generalize D.words ((ss.take k).map (·.size)) r = acc at *
      have c0 : (wr.alloc (.cells #[.int .i64 acc, .int .i64 (D.word s.size r)] 3)).cell? ⟨wr.heap.size, 0, none⟩ = some (.int .i64 acc) := by simp [World.cell?_alloc_new]
      have c1 : (wr.alloc (.cells #[.int .i64 acc, .int .i64 (D.word s.size r)] 3)).cell? ⟨wr.heap.size, 1, none⟩ = some (.int .i64 (D.word s.size r)) := by simp [World.cell?_alloc_new]
      have h2 : 0 ≤ D.word s.size r := by omega
      have hsz2 : s.size ≤ 1000 := by omega
      have h3 : acc + D.word s.size r ≤ 1000000000 := by omega
      go_wp2_with (first
        | (go_at_call 50; refine (word_any _ _ _ hsz2).mono ?_; rintro e w' ⟨rfl, rfl⟩)
        | (go_at_call 49; refine (total_any _ _ _ _ _ h0.1 h2 h3 c0 c1).mono ?_; rintro e w' ⟨rfl, rfl⟩))
      go_roundw
      case rel => exact ⟨k + 1, hlt, by go_num, by rw [HS.out], hb.trans (((Below.refl _ _).alloc (Nat.le_refl _) _).mono hb.size)⟩
      case measure => simp [intOf]; omega
    · have hkk : k = ss.length := by omega
      subst hkk
      go_wp2
      go_ret
      exact ⟨ret_int (by rw [List.take_length]), hb⟩

theorem limited_any (n a b : Int) (w : World) : Calls Try.prog 57 #[.int .i64 n, .int .i64 a, .int .i64 b] w fun e w' => e = .returned (.int .i64 (max a (min n b))) ∧ w = w' := by
  by_cases h1 : n ≤ b
  · by_cases h2 : a < n
    · have H : Hid (max a (min n b) = n) := Lib.hid (by omega)
      go_enter Try.func57, Try.ntmps57
      go_wp2
      go_ret
      exact ⟨ret_int (by rw [H.out]; try omega), rfl⟩
    · have H : Hid (max a (min n b) = a) := Lib.hid (by omega)
      go_enter Try.func57, Try.ntmps57
      go_wp2
      go_ret
      exact ⟨ret_int (by rw [H.out]; try omega), rfl⟩
  · by_cases h2 : a < b
    · have H : Hid (max a (min n b) = b) := Lib.hid (by omega)
      go_enter Try.func57, Try.ntmps57
      go_wp2
      go_ret
      exact ⟨ret_int (by rw [H.out]; try omega), rfl⟩
    · have H : Hid (max a (min n b) = a) := Lib.hid (by omega)
      go_enter Try.func57, Try.ntmps57
      go_wp2
      go_ret
      exact ⟨ret_int (by rw [H.out]; try omega), rfl⟩

theorem lim_eq (r : Int) : max 25 (min r 400) = D.lim r := by
  unfold D.lim; split
  · omega
  · split <;> omega
theorem refword_any (s : ByteArray) (r : Int) (w : World) (hs : s.size ≤ 100) :
    Calls Try.prog 56 #[.string s, .int .i64 r] w fun e w' => e = .returned (.int .i64 (D.word s.size r)) ∧ w = w' := by
  have hl := D.lim_bd r
  have hw := D.word_bd s.size r hs
  have hlt := fun k => D.word_lt s.size r k
  have HW := Lib.hid hlt
  clear hlt
  have HL := Lib.hid (lim_eq r)
  generalize D.word s.size r = W at *
  go_enter Try.func56, Try.ntmps56
  go_wp2_with (go_at_call 57; refine (limited_any _ _ _ _).mono ?_; rintro e w' ⟨rfl, rfl⟩; rw [HL.out])
  generalize D.lim r = c at *
  go_loop [6] (fun i => ∃ k : Nat, (k : Int) ≤ W ∧ i = .int .i64 k) (fun i => (W - intOf i).toNat)
  case atStart => exact ⟨0, by omega, rfl⟩
  case round =>
    obtain ⟨k, hk, rfl⟩ := hrel
    have hiff := HW.out k
    have hb : (k : Int) * c ≤ 16320 * 400 := Int.mul_le_mul (by omega) (by omega) (by omega) (by omega)
    have hb0 : 0 ≤ (k : Int) * c := Int.mul_nonneg (by omega) (by omega)
    by_cases h : (k : Int) < W
    · have h2 := hiff.1 h
      clear hiff
      go_wp2
      go_round
      case rel => exact ⟨k + 1, by omega, by go_num⟩
      case measure => simp [intOf]; omega
    · have h2 : ¬ (k : Int) * c < ((s.size : Int) + 2) * 4000 := fun hh => h (hiff.2 hh)
      clear hiff
      have hkw : (k : Int) = W := by omega
      have HK := Lib.hid hkw
      clear hkw
      go_wp2
      go_ret
      exact ⟨ret_int HK.out, rfl⟩

theorem refwords_any (A : Option Addr) (c B : Nat) (ss : List ByteArray) (r : Int) (w : World) (hr : Reads w B 1 A ss.length (ss.map Value.string)) (hl : ss.length ≤ 120) (hs : ∀ s ∈ ss, s.size ≤ 100) :
    Calls Try.prog 47 #[.slice A ss.length c, .int .i64 r] w fun e w' => e = .returned (.int .i64 (D.words (ss.map (·.size)) r)) ∧ w = w' := by
  go_enter Try.func47, Try.ntmps47
  go_wp2
  go_loop [5, 6] (fun n i => ∃ k : Nat, k ≤ ss.length ∧ i = .int .i64 k ∧ n = .int .i64 (D.words ((ss.take k).map (·.size)) r)) (fun _ i => ss.length - (intOf i).toNat)
  case atStart => exact ⟨0, Nat.zero_le _, rfl, rfl⟩
  case round =>
    obtain ⟨k, hk, rfl, rfl⟩ := hrel
    by_cases hlt : k < ss.length
    · obtain ⟨ad, rfl, hlo, hc⟩ := hr.2 (by omega)
      have hcell : w.cell? (ad.add k) = some (.string ss[k]) := hc k _ (by simp [hlt])
      have hsz : (ss[k]).size ≤ 100 := hs _ (List.getElem_mem hlt)
      have h0 := take_bd ss k r hl hs
      have HS := Lib.hid (take_words ss k hlt r)
      have h1 := D.word_bd (ss[k]).size r hsz
      generalize ss[k] = s at *
      clear hc hs hr
      generalize D.words ((ss.take k).map (·.size)) r = acc at *
      have h3 : acc + D.word s.size r ≤ 1000000000 := by omega
      go_wp2_with (go_at_call 56; refine (refword_any _ _ _ hsz).mono ?_; rintro e w' ⟨rfl, rfl⟩)
      go_round
      case rel => exact ⟨k + 1, hlt, by go_num, by rw [HS.out]⟩
      case measure => simp [intOf]; omega
    · have hkk : k = ss.length := by omega
      subst hkk
      go_wp2
      go_ret
      exact ⟨ret_int (by simp), rfl⟩

end Go.Proofs.Ytfjkelngdljikaa
