/-
  Layer 43: the law on two lists and a time; the law on the order. By an AI agent.
-/
import Derived.Test.YtfcanmicjpjjoaaLaws2
namespace Go.Proofs.Ytfcanmicjpjjoaa
open Go.RowKit

theorem duntil_any (A : Option Addr) (c : Nat) (ss : List ByteArray) (A2 : Option Addr) (c2 : Nat) (tt : List ByteArray) (r t : Int) (w : World)
    (hr : Reads w w.heap.size 1 A ss.length (ss.map Value.string)) (hs : ∀ s ∈ ss, s.size ≤ maxLen) (hm : ss.length ≤ 8796093021952)
    (kr : Reads w w.heap.size 1 A2 tt.length (tt.map Value.string)) (ks : ∀ s ∈ tt, s.size ≤ maxLen) (km : tt.length ≤ 8796093021952)
    (_ : -9223372036854775808 ≤ r) (_ : r ≤ 9223372036854775807) (_ : -9223372036854775808 ≤ t) (_ : t ≤ 9223372036854775807) :
    Calls Try.prog 9 #[.slice A ss.length c, .slice A2 tt.length c2, .int .i64 r, .int .i64 t] w fun e w' => e = .returned (.bool true) ∧ Below w.heap.size w w' := by
  have hm' : ss.length ≤ maxLen := by unfold maxLen; omega
  have km' : tt.length ≤ maxLen := by unfold maxLen; omega
  by_cases hl : D.long (ss.map (·.size)) = true
  · have HL := Lib.hid (long_yes A c _ ss w hr hm' hs hl)
    clear hl hr hs hm hm' kr ks km km'
    go_enter Try.func9, Try.ntmps9
    go_wp2_with fail
    refine HL.out.mono ?_
    rintro e w' ⟨rfl, rfl⟩
    go_wp2_with fail
    refine (awake_any _).mono ?_
    rintro e w5 ⟨rfl, hb8⟩
    go_wp2_with fail
    go_ret
    exact ⟨rfl, hb8⟩
  have hl' : D.long (ss.map (·.size)) = false := by simpa using hl
  have HL := Lib.hid (long_no A c _ ss w hr hm' hs hl')
  by_cases kl : D.long (tt.map (·.size)) = true
  · have KL := Lib.hid (long_yes A2 c2 _ tt w kr km' ks kl)
    clear hl hl' hr hs hm hm' kl kr ks km km'
    go_enter Try.func9, Try.ntmps9
    go_wp2_with fail
    refine HL.out.mono ?_
    rintro e w' ⟨rfl, rfl⟩
    go_wp2_with fail
    refine KL.out.mono ?_
    rintro e w' ⟨rfl, rfl⟩
    go_wp2_with fail
    refine (awake_any _).mono ?_
    rintro e w5 ⟨rfl, hb8⟩
    go_wp2_with fail
    go_ret
    exact ⟨rfl, hb8⟩
  have kl' : D.long (tt.map (·.size)) = false := by simpa using kl
  have KL := Lib.hid (long_no A2 c2 _ tt w kr km' ks kl')
  obtain ⟨hn, hz⟩ := long_bd hl'
  obtain ⟨kn, kz⟩ := long_bd kl'
  by_cases ht : t < 0
  · clear hl hl' hr hs hm hm' kl kl' kr ks km km' hz kz
    go_enter Try.func9, Try.ntmps9
    go_wp2_with fail
    refine HL.out.mono ?_
    rintro e w' ⟨rfl, rfl⟩
    go_wp2_with fail
    refine KL.out.mono ?_
    rintro e w' ⟨rfl, rfl⟩
    go_wp2_with fail
    refine (awake_any _).mono ?_
    rintro e w5 ⟨rfl, hb8⟩
    go_wp2_with fail
    go_ret
    exact ⟨rfl, hb8⟩
  by_cases ht2 : 549755813888 < t
  · clear hl hl' hr hs hm hm' kl kl' kr ks km km' hz kz
    go_enter Try.func9, Try.ntmps9
    go_wp2_with fail
    refine HL.out.mono ?_
    rintro e w' ⟨rfl, rfl⟩
    go_wp2_with fail
    refine KL.out.mono ?_
    rintro e w' ⟨rfl, rfl⟩
    go_wp2_with fail
    refine (awake_any _).mono ?_
    rintro e w5 ⟨rfl, hb8⟩
    go_wp2_with fail
    go_ret
    exact ⟨rfl, hb8⟩
  have HR := Lib.hid hr
  have KR := Lib.hid kr
  have HZ := Lib.hid hz
  have KZ := Lib.hid kz
  clear hl hl' hr hs hm hm' kl kl' kr ks km km' hz kz
  obtain ⟨i0, hi0, hz0, hz1, hz2⟩ := info_parts str_info
  go_enter Try.func9, Try.ntmps9
  go_wp2_with fail
  refine HL.out.mono ?_
  rintro e w' ⟨rfl, rfl⟩
  go_wp2_with fail
  refine KL.out.mono ?_
  rintro e w' ⟨rfl, rfl⟩
  have HR1 := (HR.out.alloc (Nat.le_refl _) (.cells #[] 9))
  have own0 := World.ownsRow_lit (base := w.heap.size) (e := 9) (size := 1) w #[] 0 (Nat.le_refl _) (by decide) rfl
  have hb0 : Below w.heap.size w (w.alloc (.cells #[] 9)) := (Below.refl _ _).alloc (Nat.le_refl _) _
  go_wp2_with (first
    | (at_builtin
       refine wpList_append_any _ rfl (.tmp 25) (.tmp 26) _ rfl w.heap.size 9 i0 _ 1 16 Try.underlying22 hi0 hz0 hz1 hz2 rfl (by omega) (.slice (some ⟨w.heap.size, 0, none⟩) 0 0) 0 [] rfl own0 w.heap.size A ss.length c _ rfl HR1 (strs_one _) (by simp only [maxLen]; omega) (by omega) hb0.size ?_
       intro v1 w1 hown1 hg1 hat1
       have hb1 := hb0.grown hg1 hb0.size (own_below own0 (Nat.le_refl _)))
    | (at_builtin
       refine wpList_append_any _ rfl (.tmp 27) (.tmp 28) _ rfl w.heap.size 9 i0 _ 1 16 Try.underlying22 hi0 hz0 hz1 hz2 rfl (by omega) v1 (0 + ss.length) _ rfl hown1 w.heap.size A2 tt.length c2 _ rfl (KR.out.below hb1 (Nat.le_refl _)) (strs_one _) (by simp only [maxLen]; omega) (by omega) hb1.size ?_
       intro v2 w2 hown2 hg2 hat2))
  have hb2 := hb1.grown hg2 hb1.size (own_below hown1 (Nat.le_refl _))
  obtain ⟨A', c', hv, hrd⟩ := own_reads hown2
  have Z : ∀ s ∈ ss ++ tt, s.size ≤ 100 := fun s hs => (List.mem_append.1 hs).elim (HZ.out s) (KZ.out s)
  have T0 : D.tim t = t := by unfold D.tim; rw [if_neg (by omega), if_neg (by omega)]
  have x1 := take_bd ss ss.length r (by omega) HZ.out
  have x2 := take_bd tt tt.length r (by omega) KZ.out
  rw [List.take_length] at x1 x2
  have T1 : D.tim (t + D.words (ss.map (·.size)) r) = t + D.words (ss.map (·.size)) r := by unfold D.tim; rw [if_neg (by omega), if_neg (by omega)]
  have HW : Hid (∀ w', Below w2.heap.size w2 w' → Calls Try.prog 17 #[v2, .int .i64 r, .int .i64 t] w' fun e w'' => e = .returned (.int .i64 (t + (D.words (ss.map (·.size)) r + D.words (tt.map (·.size)) r))) ∧ Below w'.heap.size w' w'') := Lib.hid (fun w' hb' => by
    have hlen : 0 + ss.length + tt.length = (ss ++ tt).length := by simp
    rw [hv, hlen]
    refine (until_any A' c' _ (ss ++ tt) r t w' ?_ hb'.size (by rw [← hlen]; omega) Z).mono fun e w' ⟨he, hb⟩ => ⟨?_, hb⟩
    · rw [hlen] at hrd; exact (by simpa using hrd : Reads w2 w2.heap.size 1 A' (ss ++ tt).length ((ss ++ tt).map Value.string)).below hb' (Nat.le_refl _)
    · rw [he, List.map_append, D.words_append, T0])
  have W1 : Hid (∀ w', Below w.heap.size w w' → Calls Try.prog 17 #[.slice A ss.length c, .int .i64 r, .int .i64 t] w' fun e w'' => e = .returned (.int .i64 (t + D.words (ss.map (·.size)) r)) ∧ Below w'.heap.size w' w'') := Lib.hid (fun w' hb => by
    have h := until_any A c _ ss r t w' (HR.out.below hb (Nat.le_refl _)) hb.size (by omega) HZ.out
    rw [T0] at h; exact h)
  have W2 : Hid (∀ w', Below w.heap.size w w' → Calls Try.prog 17 #[.slice A2 tt.length c2, .int .i64 r, .int .i64 (t + D.words (ss.map (·.size)) r)] w' fun e w'' => e = .returned (.int .i64 (t + D.words (ss.map (·.size)) r + D.words (tt.map (·.size)) r)) ∧ Below w'.heap.size w' w'') := Lib.hid (fun w' hb => by
    have h := until_any A2 c2 _ tt r (t + D.words (ss.map (·.size)) r) w' (KR.out.below hb (Nat.le_refl _)) hb.size (by omega) KZ.out
    rw [T1] at h; exact h)
  clear hat1 hat2 hown1 hown2 hg1 hg2 hv hrd Z HR KR HZ KZ HR1 own0 hb0 T0 T1
  generalize D.words (ss.map (·.size)) r = X at *
  generalize D.words (tt.map (·.size)) r = Y at *
  refine (W1.out _ hb2).mono ?_
  rintro e w3 ⟨rfl, hb3⟩
  have hb4 := hb2.trans (hb3.mono hb2.size)
  go_wp2_with fail
  refine (W2.out _ hb4).mono ?_
  rintro e w4 ⟨rfl, hb5⟩
  have hb6 := hb4.trans (hb5.mono hb4.size)
  have hb35 := hb3.trans (hb5.mono hb3.size)
  go_wp2_with fail
  refine (HW.out _ hb35).mono ?_
  rintro e w5 ⟨rfl, hb7⟩
  have hb8 := hb6.trans (hb7.mono hb6.size)
  have hE : t + X + Y = t + (X + Y) := by omega
  rw [hE]
  clear hE
  go_wp2_with fail
  refine (awake_any _).mono ?_
  rintro e w6 ⟨rfl, hb9⟩
  go_wp2_with fail
  go_ret
  exact ⟨rfl, hb8.trans (hb9.mono hb8.size)⟩

theorem words_reverse (l : List Nat) (r : Int) : D.words l.reverse r = D.words l r := by
  simp only [D.words, List.map_reverse]
  induction l with
  | nil => rfl
  | cons x l ih => simp only [List.map_cons, List.reverse_cons, List.sum_append, ih, List.sum_cons, List.sum_nil]; omega

/-- What has been gathered behind k rounds: the last k words, the last first. -/
def D.back (ss : List ByteArray) (k : Nat) : List ByteArray := ss.reverse.take k

theorem D.back_succ (ss : List ByteArray) (k : Nat) (h : k < ss.length) : (D.back ss (k + 1)).map Value.string = (D.back ss k).map Value.string ++ [.string (ss[ss.length - 1 - k]'(by omega))] := by
  unfold D.back
  rw [List.take_succ_eq_append_getElem (by simpa using h), List.map_append, List.getElem_reverse]
  rfl

theorem dorder_any (A : Option Addr) (c : Nat) (ss : List ByteArray) (r : Int) (w : World)
    (hr : Reads w w.heap.size 1 A ss.length (ss.map Value.string)) (hs : ∀ s ∈ ss, s.size ≤ maxLen) (hm : ss.length ≤ 8796093021952)
    (_ : -9223372036854775808 ≤ r) (_ : r ≤ 9223372036854775807) :
    Calls Try.prog 4 #[.slice A ss.length c, .int .i64 r] w fun e w' => e = .returned (.bool true) ∧ Below w.heap.size w w' := by
  have hm' : ss.length ≤ maxLen := by unfold maxLen; omega
  by_cases hl : D.long (ss.map (·.size)) = true
  · have HL := Lib.hid (long_yes A c _ ss w hr hm' hs hl)
    clear hl hr hs hm hm'
    go_enter Try.func4, Try.ntmps4
    go_wp2_with fail
    refine HL.out.mono ?_
    rintro e w' ⟨rfl, rfl⟩
    go_wp2_with fail
    refine (awake_any _).mono ?_
    rintro e w5 ⟨rfl, hb8⟩
    go_wp2_with fail
    go_ret
    exact ⟨rfl, hb8⟩
  have hl' : D.long (ss.map (·.size)) = false := by simpa using hl
  have HL := Lib.hid (long_no A c _ ss w hr hm' hs hl')
  obtain ⟨hn, hz⟩ := long_bd hl'
  have HR := Lib.hid hr
  have HZ := Lib.hid hz
  clear hl hl' hr hs hm hm' hz
  obtain ⟨i0, hi0, hz0, hz1, hz2⟩ := info_parts str_info
  go_enter Try.func4, Try.ntmps4
  go_wp2_with fail
  refine HL.out.mono ?_
  rintro e w' ⟨rfl, rfl⟩
  go_wp2_with fail
  go_loopw [5, 6] (fun v i wr => ∃ k : Nat, k ≤ ss.length ∧ i = .int .i64 ((ss.length : Int) - 1 - k) ∧ wr.ownsRow w.heap.size 9 1 v k ((D.back ss k).map Value.string) ∧ Below w.heap.size w wr) (fun _ i _ => (intOf i + 1).toNat)
  case atStart => exact ⟨0, Nat.zero_le _, by simp, World.ownsRow_nil _ _ _ _, Below.refl _ _⟩
  case round =>
    obtain ⟨k, hk, rfl, hown, hb⟩ := hrel
    by_cases hlt : k < ss.length
    · obtain ⟨ad, rfl, hlo, hc⟩ := HR.out.2 (by omega)
      have hcell : wr.cell? (ad.add (ss.length - 1 - k)) = some (.string (ss[ss.length - 1 - k]'(by omega))) := (hb.cell (by rw [block_of_add]; omega)).trans (hc _ _ (by rw [List.getElem?_map, List.getElem?_eq_getElem (by omega)]; rfl))
      have HS := Lib.hid (D.back_succ ss k hlt)
      clear hc
      generalize ss[ss.length - 1 - k]'(by omega) = s at *
      go_wp2_with (at_builtin; refine wpList_append_any _ rfl (.tmp 17) (.tmp 22) _ rfl w.heap.size 9 i0 _ 1 16 Try.underlying22 hi0 hz0 hz1 hz2 rfl (by omega) u5 k _ rfl (hown.alloc _) _ (some ⟨wr.heap.size, 0, none⟩) 1 1 [.string s] rfl (reads_new wr [.string s] 9) (by simp [Value.oneCell']) (by simp only [maxLen]; omega) (by omega) (by have := hb.size; simp; omega) ?_; intro v1 w1 hown1 hg1 hat1)
      have hb0 : Below w.heap.size w (wr.alloc (.cells #[.string s] 9)) := hb.alloc hb.size _
      have hb1 := hb0.grown hg1 hb0.size (own_below hown (Nat.le_refl _))
      rw [← HS.out] at hown1
      clear hg1 hat1 hb0 hcell
      go_roundw
      case rel => exact ⟨k + 1, hlt, by go_num, hown1, hb1⟩
      case measure => simp [intOf]; omega
    · have hkk : k = ss.length := by omega
      subst hkk
      have hx := take_bd ss ss.length r (by omega) HZ.out
      rw [List.take_length] at hx
      have W1 := Lib.hid (words_any A c _ ss r wr (HR.out.below hb (Nat.le_refl _)) hb.size (by omega) HZ.out)
      obtain ⟨A', c', hv, hrd⟩ := own_reads hown
      have hlen : (D.back ss ss.length).length = ss.length := by simp [D.back]
      have Z : ∀ s ∈ D.back ss ss.length, s.size ≤ 100 := fun s hs => HZ.out s (by simpa using List.mem_of_mem_take hs)
      have W2 : Hid (∀ w', Below wr.heap.size wr w' → Calls Try.prog 13 #[u5, .int .i64 r] w' fun e w'' => e = .returned (.int .i64 (D.words (ss.map (·.size)) r)) ∧ Below w'.heap.size w' w'') := Lib.hid (fun w' hb' => by
        rw [hv]
        generalize hbk : D.back ss ss.length = bk at hrd hlen Z
        rw [← hlen] at hrd
        have h := words_any A' c' _ bk r w' (hrd.below hb' (Nat.le_refl _)) hb'.size (by omega) Z
        rw [hlen] at h
        refine h.mono fun e w'' ⟨he, hbb⟩ => ⟨?_, hbb⟩
        rw [he, ← hbk]
        unfold D.back
        rw [← words_reverse (ss.map _), List.map_take, List.map_reverse, List.take_of_length_le (by simp)])
      clear hown hv hrd hlen Z HR HZ
      generalize D.words (ss.map (·.size)) r = X at *
      go_wp2_with fail
      refine W1.out.mono ?_
      rintro e w3 ⟨rfl, hb3⟩
      have hb4 := hb.trans (hb3.mono hb.size)
      go_wp2_with fail
      refine (W2.out _ hb3).mono ?_
      rintro e w4 ⟨rfl, hb5⟩
      have hb6 := hb4.trans (hb5.mono hb4.size)
      go_wp2_with fail
      refine (awake_any _).mono ?_
      rintro e w6 ⟨rfl, hb9⟩
      go_wp2_with fail
      go_ret
      exact ⟨rfl, hb6.trans (hb9.mono hb6.size)⟩
end Go.Proofs.Ytfcanmicjpjjoaa
