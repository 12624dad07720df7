/-
  Layer 43: the laws about lists of words. By an AI agent.
-/
import Derived.Test.YtfcanmicjpjjoaaWalks2
import Derived.Test.YtfcanmicjpjjoaaAppend
namespace Go.Proofs.Ytfcanmicjpjjoaa
open Go.RowKit

section
variable (A : Option Addr) (c B : Nat) (ss : List ByteArray) (w : World) (hr : Reads w B 1 A ss.length (ss.map Value.string)) (hm : ss.length ≤ maxLen) (hs : ∀ s ∈ ss, s.size ≤ maxLen)
include hr hm hs
theorem long_yes (h : D.long (ss.map (·.size)) = true) : Calls Try.prog 11 #[.slice A ss.length c] w fun e w' => e = .returned (.bool true) ∧ w = w' :=
  (long_any A c B ss w hr hm hs).mono fun e w' ⟨he, hw⟩ => ⟨by rw [he, h], hw⟩
theorem long_no (h : D.long (ss.map (·.size)) = false) : Calls Try.prog 11 #[.slice A ss.length c] w fun e w' => e = .returned (.bool false) ∧ w = w' :=
  (long_any A c B ss w hr hm hs).mono fun e w' ⟨he, hw⟩ => ⟨by rw [he, h], hw⟩
end

theorem long_bd {ss : List ByteArray} (h : D.long (ss.map (·.size)) = false) : ss.length ≤ 60 ∧ ∀ s ∈ ss, s.size ≤ 100 := by
  have := D.long_false h
  simp only [List.length_map, List.mem_map] at this
  exact ⟨this.1, fun s hs => this.2 _ ⟨s, hs, rfl⟩⟩

theorem dwords_any (s : ByteArray) (A : Option Addr) (c : Nat) (ss : List ByteArray) (r t : Int) (w : World) (h0 : s.size ≤ 140737488351232) (hr : Reads w w.heap.size 1 A ss.length (ss.map Value.string)) (hs : ∀ s ∈ ss, s.size ≤ maxLen) (hm : ss.length ≤ 8796093021952)
    (_ : -9223372036854775808 ≤ r) (_ : r ≤ 9223372036854775807) (_ : -9223372036854775808 ≤ t) (_ : t ≤ 9223372036854775807) :
    Calls Try.prog 8 #[.string s, .slice A ss.length c, .int .i64 r, .int .i64 t] w fun e w' => e = .returned (.bool true) ∧ Below w.heap.size w w' := by
  have hm' : ss.length ≤ maxLen := by unfold maxLen; omega
  by_cases hl : D.long (ss.map (·.size)) = true
  · have HL := Lib.hid (long_yes A c _ ss w hr hm' hs hl)
    clear hl hr hs hm hm'
    go_enter Try.func8, Try.ntmps8
    go_wp2_with (first
      | (go_at_call 11; refine HL.out.mono ?_; rintro e w' ⟨rfl, rfl⟩)
      | (go_at_call 12; refine (awake_any _).mono ?_; rintro e w' ⟨rfl, hb⟩))
    go_ret
    exact ⟨rfl, hb⟩
  have hl' : D.long (ss.map (·.size)) = false := by simpa using hl
  have HL := Lib.hid (long_no A c _ ss w hr hm' hs hl')
  by_cases h1 : 100 < s.size
  · have d1 : decide ((100 : Int) < s.size) = true := by simp; omega
    clear hl hl' hr hs hm hm' h1
    go_enter Try.func8, Try.ntmps8
    go_wp2_with (first
      | (go_at_call 11; refine HL.out.mono ?_; rintro e w' ⟨rfl, rfl⟩)
      | (go_at_call 12; refine (awake_any _).mono ?_; rintro e w' ⟨rfl, hb⟩))
    go_ret
    exact ⟨rfl, hb⟩
  have d1 : decide ((100 : Int) < s.size) = false := by simp; omega
  have hs1 : s.size ≤ 100 := by omega
  obtain ⟨hn, hz⟩ := long_bd hl'
  have hn2 : ss.length ≤ 120 := by omega
  have W1 := Lib.hid (words_any A c _ ss r w hr (Nat.le_refl _) hn2 hz)
  have RR := Lib.hid hr
  have HZ := Lib.hid hz
  clear hl hl' hr hs hm hm' h1 hz h0
  go_enter Try.func8, Try.ntmps8
  go_wp2_with fail
  refine HL.out.mono ?_
  rintro e w' ⟨rfl, rfl⟩
  go_wp2_with fail
  refine (word_any _ _ _ (Nat.le_trans hs1 (by decide))).mono ?_
  rintro e w' ⟨rfl, rfl⟩
  go_wp2_with fail
  refine (refword_any _ _ _ hs1).mono ?_
  rintro e w' ⟨rfl, rfl⟩
  go_wp2_with fail
  refine W1.out.mono ?_
  rintro e w1 ⟨rfl, hb1⟩
  have R1 := Lib.hid (RR.out.below hb1 (Nat.le_refl _))
  go_wp2_with fail
  refine (refwords_any _ _ _ _ _ _ R1.out hn2 HZ.out).mono ?_
  rintro e w' ⟨rfl, rfl⟩
  go_wp2_with fail
  refine (until_any _ _ _ _ _ _ _ R1.out hb1.size hn2 HZ.out).mono ?_
  rintro e w2 ⟨rfl, hb2⟩
  have R2 := Lib.hid (R1.out.below hb2 hb1.size)
  go_wp2_with fail
  refine (refuntil_any _ _ _ _ _ _ _ R2.out hn2 HZ.out).mono ?_
  rintro e w' ⟨rfl, rfl⟩
  go_wp2_with fail
  refine (awake_any _).mono ?_
  rintro e w3 ⟨rfl, hb3⟩
  go_wp2_with fail
  go_ret
  exact ⟨rfl, (hb1.trans (hb2.mono hb1.size)).trans (hb3.mono (Nat.le_trans hb1.size hb2.size))⟩

theorem dbounds_any (A : Option Addr) (c : Nat) (ss : List ByteArray) (r t : Int) (w : World) (hr : Reads w w.heap.size 1 A ss.length (ss.map Value.string)) (hs : ∀ s ∈ ss, s.size ≤ maxLen) (hm : ss.length ≤ 8796093021952)
    (_ : -9223372036854775808 ≤ r) (_ : r ≤ 9223372036854775807) (_ : -9223372036854775808 ≤ t) (_ : t ≤ 9223372036854775807) :
    Calls Try.prog 10 #[.slice A ss.length c, .int .i64 r, .int .i64 t] w fun e w' => e = .returned (.bool true) ∧ Below w.heap.size w w' := by
  have hm' : ss.length ≤ maxLen := by unfold maxLen; omega
  by_cases hl : D.long (ss.map (·.size)) = true
  · have HL := Lib.hid (long_yes A c _ ss w hr hm' hs hl)
    clear hl hr hs hm hm'
    go_enter Try.func10, Try.ntmps10
    go_wp2_with (first
      | (go_at_call 11; refine HL.out.mono ?_; rintro e w' ⟨rfl, rfl⟩)
      | (go_at_call 12; refine (awake_any _).mono ?_; rintro e w' ⟨rfl, hb⟩))
    go_ret
    exact ⟨rfl, hb⟩
  have hl' : D.long (ss.map (·.size)) = false := by simpa using hl
  have HL := Lib.hid (long_no A c _ ss w hr hm' hs hl')
  obtain ⟨hn, hz⟩ := long_bd hl'
  have hn2 : ss.length ≤ 120 := by omega
  have h0 := take_bd ss ss.length r hn2 hz
  rw [List.take_length] at h0
  have W1 := Lib.hid (words_any A c _ ss r w hr (Nat.le_refl _) hn2 hz)
  have RR := Lib.hid hr
  have HZ := Lib.hid hz
  clear hl hl' hr hs hm hm' hz
  have EW : Hid (∀ r' l, D.lim r' = D.lim r → D.words l r' = D.words l r) := Lib.hid (fun r' l h => by simp only [D.words, D.word, h])
  clear h0
  have hX := take_bd ss ss.length r hn2 HZ.out
  rw [List.take_length] at hX
  obtain ⟨t', ht', htt⟩ : ∃ t', D.tim t = t' ∧ ((t ≤ 0 ∧ t' = 0) ∨ (0 < t ∧ t ≤ 1099511627776 ∧ t' = t) ∨ (1099511627776 < t ∧ t' = 1099511627776)) := by
    refine ⟨_, rfl, ?_⟩
    unfold D.tim; (repeat' split) <;> omega
  have HT := Lib.hid ht'
  clear ht'
  obtain ⟨r', hrr⟩ : ∃ r', ((r ≤ 25 ∧ r' = 25) ∨ (25 < r ∧ r ≤ 400 ∧ r' = r) ∨ (400 < r ∧ r' = 400)) := by
    by_cases h1 : r ≤ 25
    · exact ⟨_, .inl ⟨h1, rfl⟩⟩
    · by_cases h2 : r ≤ 400
      · exact ⟨_, .inr (.inl ⟨by omega, h2, rfl⟩)⟩
      · exact ⟨_, .inr (.inr ⟨by omega, rfl⟩)⟩
  have hlim : Hid (D.lim r' = D.lim r) := Lib.hid (by unfold D.lim; (repeat' split) <;> omega)
  have W2 : Hid (∀ w', Below w.heap.size w w' → Calls Try.prog 13 #[.slice A ss.length c, .int .i64 r'] w' fun e w'' => e = .returned (.int .i64 (D.words (ss.map (·.size)) r)) ∧ Below w'.heap.size w' w'') := Lib.hid (fun w' hb =>
    (words_any A c _ ss r' w' (RR.out.below hb (Nat.le_refl _)) hb.size hn2 HZ.out).mono fun e w'' ⟨he, hw⟩ => ⟨by rw [he, EW.out _ _ hlim.out], hw⟩)
  have W3 : Hid (∀ w', Below w.heap.size w w' → Calls Try.prog 17 #[.slice A ss.length c, .int .i64 r, .int .i64 t] w' fun e w'' => e = .returned (.int .i64 (t' + D.words (ss.map (·.size)) r)) ∧ Below w'.heap.size w' w'') := Lib.hid (fun w' hb =>
    (until_any A c _ ss r t w' (RR.out.below hb (Nat.le_refl _)) hb.size hn2 HZ.out).mono fun e w'' ⟨he, hw⟩ => ⟨by rw [he, HT.out], hw⟩)
  clear RR HZ HT EW hlim
  generalize D.words (ss.map (·.size)) r = X at *
  rcases htt with ⟨ht, rfl⟩ | ⟨ht, ht2, rfl⟩ | ⟨ht, rfl⟩ <;> rcases hrr with ⟨hr, rfl⟩ | ⟨hr, hr2, rfl⟩ | ⟨hr, rfl⟩
  all_goals
    go_enter Try.func10, Try.ntmps10
    go_wp2_with fail
    refine HL.out.mono ?_
    rintro e w' ⟨rfl, rfl⟩
    go_wp2_with fail
    refine W1.out.mono ?_
    rintro e w1 ⟨rfl, hb1⟩
    go_wp2_with fail
    refine (W2.out _ hb1).mono ?_
    rintro e w2 ⟨rfl, hb2⟩
    have hb3 := hb1.trans (hb2.mono hb1.size)
    go_wp2_with fail
    refine (W3.out _ hb3).mono ?_
    rintro e w3 ⟨rfl, hb4⟩
    have hb5 := hb3.trans (hb4.mono hb3.size)
    go_wp2_with fail
    refine (W2.out _ hb5).mono ?_
    rintro e w4 ⟨rfl, hb6⟩
    have hb7 := hb5.trans (hb6.mono hb5.size)
    go_wp2_with fail
    refine (awake_any _).mono ?_
    rintro e w5 ⟨rfl, hb8⟩
    go_wp2_with fail
    go_ret
    exact ⟨rfl, hb7.trans (hb8.mono hb7.size)⟩

theorem str_info : (Try.prog.info? 9).map (fun i => (i.zero, i.size, i.bytes)) = some (some (.string .empty), 1, 16) := by kernel_rfl

theorem strs_one (ss : List ByteArray) : ∀ u ∈ ss.map Value.string, u.oneCell' = true := by
  intro u hu; simp only [List.mem_map] at hu; obtain ⟨s, _, rfl⟩ := hu; rfl

theorem dsum_any (A : Option Addr) (c : Nat) (ss : List ByteArray) (A2 : Option Addr) (c2 : Nat) (tt : List ByteArray) (r : Int) (w : World)
    (hr : Reads w w.heap.size 1 A ss.length (ss.map Value.string)) (hs : ∀ s ∈ ss, s.size ≤ maxLen) (hm : ss.length ≤ 8796093021952)
    (kr : Reads w w.heap.size 1 A2 tt.length (tt.map Value.string)) (ks : ∀ s ∈ tt, s.size ≤ maxLen) (km : tt.length ≤ 8796093021952)
    (_ : -9223372036854775808 ≤ r) (_ : r ≤ 9223372036854775807) :
    Calls Try.prog 3 #[.slice A ss.length c, .slice A2 tt.length c2, .int .i64 r] w fun e w' => e = .returned (.bool true) ∧ Below w.heap.size w w' := by
  have hm' : ss.length ≤ maxLen := by unfold maxLen; omega
  have km' : tt.length ≤ maxLen := by unfold maxLen; omega
  by_cases hl : D.long (ss.map (·.size)) = true
  · have HL := Lib.hid (long_yes A c _ ss w hr hm' hs hl)
    clear hl hr hs hm hm' kr ks km km'
    go_enter Try.func3, Try.ntmps3
    go_wp2_with fail
    refine HL.out.mono ?_
    rintro e w' ⟨rfl, rfl⟩
    go_wp2_with fail
    refine (awake_any _).mono ?_
    rintro e w5 ⟨rfl, hb8⟩
    go_wp2_with fail
    go_ret
    exact ⟨rfl, hb8⟩
  have hl' : D.long (ss.map (·.size)) = false := by simpa using hl
  have HL := Lib.hid (long_no A c _ ss w hr hm' hs hl')
  by_cases kl : D.long (tt.map (·.size)) = true
  · have KL := Lib.hid (long_yes A2 c2 _ tt w kr km' ks kl)
    clear hl hl' hr hs hm hm' kl kr ks km km'
    go_enter Try.func3, Try.ntmps3
    go_wp2_with fail
    refine HL.out.mono ?_
    rintro e w' ⟨rfl, rfl⟩
    go_wp2_with fail
    refine KL.out.mono ?_
    rintro e w' ⟨rfl, rfl⟩
    go_wp2_with fail
    refine (awake_any _).mono ?_
    rintro e w5 ⟨rfl, hb8⟩
    go_wp2_with fail
    go_ret
    exact ⟨rfl, hb8⟩
  have kl' : D.long (tt.map (·.size)) = false := by simpa using kl
  have KL := Lib.hid (long_no A2 c2 _ tt w kr km' ks kl')
  obtain ⟨hn, hz⟩ := long_bd hl'
  obtain ⟨kn, kz⟩ := long_bd kl'
  have HR := Lib.hid hr
  have KR := Lib.hid kr
  have HZ := Lib.hid hz
  have KZ := Lib.hid kz
  clear hl hl' hr hs hm hm' kl kl' kr ks km km' hz kz
  obtain ⟨i0, hi0, hz0, hz1, hz2⟩ := info_parts str_info
  go_enter Try.func3, Try.ntmps3
  go_wp2_with fail
  refine HL.out.mono ?_
  rintro e w' ⟨rfl, rfl⟩
  go_wp2_with fail
  refine KL.out.mono ?_
  rintro e w' ⟨rfl, rfl⟩
  have HR1 := (HR.out.alloc (Nat.le_refl _) (.cells #[] 9))
  have own0 := World.ownsRow_lit (base := w.heap.size) (e := 9) (size := 1) w #[] 0 (Nat.le_refl _) (by decide) rfl
  have hb0 : Below w.heap.size w (w.alloc (.cells #[] 9)) := (Below.refl _ _).alloc (Nat.le_refl _) _
  go_wp2_with (first
    | (at_builtin
       refine wpList_append_any _ rfl (.tmp 15) (.tmp 16) _ rfl w.heap.size 9 i0 _ 1 16 Try.underlying22 hi0 hz0 hz1 hz2 rfl (by omega) (.slice (some ⟨w.heap.size, 0, none⟩) 0 0) 0 [] rfl own0 w.heap.size A ss.length c _ rfl HR1 (strs_one _) (by simp only [maxLen]; omega) (by omega) hb0.size ?_
       intro v1 w1 hown1 hg1 hat1
       have hb1 := hb0.grown hg1 hb0.size (own_below own0 (Nat.le_refl _)))
    | (at_builtin
       refine wpList_append_any _ rfl (.tmp 17) (.tmp 18) _ rfl w.heap.size 9 i0 _ 1 16 Try.underlying22 hi0 hz0 hz1 hz2 rfl (by omega) v1 (0 + ss.length) _ rfl hown1 w.heap.size A2 tt.length c2 _ rfl (KR.out.below hb1 (Nat.le_refl _)) (strs_one _) (by simp only [maxLen]; omega) (by omega) hb1.size ?_
       intro v2 w2 hown2 hg2 hat2))
  have hb2 := hb1.grown hg2 hb1.size (own_below hown1 (Nat.le_refl _))
  obtain ⟨A', c', hv, hrd⟩ := own_reads hown2
  have Z : ∀ s ∈ ss ++ tt, s.size ≤ 100 := fun s hs => (List.mem_append.1 hs).elim (HZ.out s) (KZ.out s)
  have HW : Hid (Calls Try.prog 13 #[v2, .int .i64 r] w2 fun e w' => e = .returned (.int .i64 (D.words (ss.map (·.size)) r + D.words (tt.map (·.size)) r)) ∧ Below w2.heap.size w2 w') := Lib.hid (by
    have hlen : 0 + ss.length + tt.length = (ss ++ tt).length := by simp
    rw [hv, hlen]
    refine (words_any A' c' _ (ss ++ tt) r w2 ?_ (Nat.le_refl _) (by rw [← hlen]; omega) Z).mono fun e w' ⟨he, hb⟩ => ⟨?_, hb⟩
    · rw [hlen] at hrd; simpa using hrd
    · rw [he, List.map_append, D.words_append])
  have W1 : Hid (∀ w', Below w.heap.size w w' → Calls Try.prog 13 #[.slice A ss.length c, .int .i64 r] w' fun e w'' => e = .returned (.int .i64 (D.words (ss.map (·.size)) r)) ∧ Below w'.heap.size w' w'') := Lib.hid (fun w' hb =>
    words_any A c _ ss r w' (HR.out.below hb (Nat.le_refl _)) hb.size (by omega) HZ.out)
  have W2 : Hid (∀ w', Below w.heap.size w w' → Calls Try.prog 13 #[.slice A2 tt.length c2, .int .i64 r] w' fun e w'' => e = .returned (.int .i64 (D.words (tt.map (·.size)) r)) ∧ Below w'.heap.size w' w'') := Lib.hid (fun w' hb =>
    words_any A2 c2 _ tt r w' (KR.out.below hb (Nat.le_refl _)) hb.size (by omega) KZ.out)
  have x1 := take_bd ss ss.length r (by omega) HZ.out
  have x2 := take_bd tt tt.length r (by omega) KZ.out
  rw [List.take_length] at x1 x2
  clear hat1 hat2 hown1 hown2 hg1 hg2 hv hrd Z HR KR HZ KZ HR1 own0 hb0
  generalize D.words (ss.map (·.size)) r = X at *
  generalize D.words (tt.map (·.size)) r = Y at *
  refine HW.out.mono ?_
  rintro e w3 ⟨rfl, hb3⟩
  have hb4 := hb2.trans (hb3.mono hb2.size)
  go_wp2_with fail
  refine (W1.out _ hb4).mono ?_
  rintro e w4 ⟨rfl, hb5⟩
  have hb6 := hb4.trans (hb5.mono hb4.size)
  go_wp2_with fail
  refine (W2.out _ hb6).mono ?_
  rintro e w5 ⟨rfl, hb7⟩
  have hb8 := hb6.trans (hb7.mono hb6.size)
  go_wp2_with fail
  refine (awake_any _).mono ?_
  rintro e w6 ⟨rfl, hb9⟩
  go_wp2_with fail
  go_ret
  exact ⟨rfl, hb8.trans (hb9.mono hb8.size)⟩
end Go.Proofs.Ytfcanmicjpjjoaa
