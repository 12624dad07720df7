/-
  The walks of layer 43, more: the law's own helpers and the reference's functions. By an AI agent.
-/
import Derived.Test.YtfcanmicjpjjoaaWalks
namespace Go.Proofs.Ytfcanmicjpjjoaa
open Go.RowKit

/-- The words are more than the statements examine. -/
def D.long (l : List Nat) : Bool := decide (60 < l.length) || l.any (fun n => decide (100 < n))

theorem D.long_false {l : List Nat} (h : D.long l = false) : l.length ≤ 60 ∧ ∀ n ∈ l, n ≤ 100 := by
  simp [D.long] at h
  exact ⟨by omega, fun n hn => by have := h.2 n hn; omega⟩

theorem long_any (A : Option Addr) (c B : Nat) (ss : List ByteArray) (w : World) (hr : Reads w B 1 A ss.length (ss.map Value.string)) (hm : ss.length ≤ maxLen) (hs : ∀ s ∈ ss, s.size ≤ maxLen) :
    Calls Try.prog 11 #[.slice A ss.length c] w fun e w' => e = .returned (.bool (D.long (ss.map (·.size)))) ∧ w = w' := by
  unfold maxLen at hm hs
  by_cases h60 : 60 < ss.length
  · have H : Hid (D.long (ss.map (·.size)) = true) := Lib.hid (by simp [D.long, h60])
    go_enter Try.func11, Try.ntmps11
    go_wp2
    go_ret
    exact ⟨ret_bool H.out.symm, rfl⟩
  · go_enter Try.func11, Try.ntmps11
    go_wp2
    go_loop [3] (fun i => ∃ k : Nat, k ≤ ss.length ∧ i = .int .i64 k ∧ Hid (∀ j s, j < k → ss[j]? = some s → s.size ≤ 100)) (fun i => ss.length - (intOf i).toNat)
    case atStart => exact ⟨0, Nat.zero_le _, rfl, Lib.hid (fun j s h => absurd h (by omega))⟩
    case round =>
      obtain ⟨k, hk, rfl, hprev⟩ := hrel
      by_cases hlt : k < ss.length
      · obtain ⟨ad, rfl, hlo, hc⟩ := hr.2 (by omega)
        have hcell : w.cell? (ad.add k) = some (.string ss[k]) := hc k _ (by simp [hlt])
        have hsm := hs _ (List.getElem_mem hlt)
        have hk? : ss[k]? = some ss[k] := List.getElem?_eq_getElem hlt
        have HK := Lib.hid hk?
        clear hk? hc hs hr
        generalize ss[k] = s at *
        by_cases hbig : 100 < s.size
        · go_wp2
          go_ret
          refine ⟨ret_bool ?_, rfl⟩
          have : D.long (ss.map (·.size)) = true := by
            simp only [D.long, Bool.or_eq_true, List.any_map, List.any_eq_true]
            exact .inr ⟨s, List.mem_of_getElem? HK.out, by simpa using hbig⟩
          exact this.symm
        · go_wp2
          go_round
          case rel => exact ⟨k + 1, hlt, by go_num, Lib.hid (fun j s' hj hs' => by
            by_cases hjk : j = k
            · subst hjk; rw [HK.out] at hs'; injection hs' with hs'; subst hs'; omega
            · exact hprev.out j s' (by omega) hs')⟩
          case measure => simp [intOf]; omega
      · have hkk : k = ss.length := by omega
        subst hkk
        clear hs hr
        go_wp2
        go_ret
        refine ⟨ret_bool ?_, rfl⟩
        have : D.long (ss.map (·.size)) = false := by
          simp only [D.long, Bool.or_eq_false_iff, List.any_map, List.any_eq_false, List.length_map, decide_eq_false_iff_not]
          refine ⟨h60, fun s hs => ?_⟩
          obtain ⟨j, hj, rfl⟩ := List.getElem_of_mem hs
          have := hprev.out j _ hj (List.getElem?_eq_getElem hj)
          simpa using this
        exact this.symm

theorem limited_any (n a b : Int) (w : World) : Calls Try.prog 20 #[.int .i64 n, .int .i64 a, .int .i64 b] w fun e w' => e = .returned (.int .i64 (max a (min n b))) ∧ w = w' := by
  by_cases h1 : n ≤ b
  · by_cases h2 : a < n
    · have H : Hid (max a (min n b) = n) := Lib.hid (by omega)
      go_enter Try.func20, Try.ntmps20
      go_wp2
      go_ret
      exact ⟨ret_int (by rw [H.out]; try omega), rfl⟩
    · have H : Hid (max a (min n b) = a) := Lib.hid (by omega)
      go_enter Try.func20, Try.ntmps20
      go_wp2
      go_ret
      exact ⟨ret_int (by rw [H.out]; try omega), rfl⟩
  · by_cases h2 : a < b
    · have H : Hid (max a (min n b) = b) := Lib.hid (by omega)
      go_enter Try.func20, Try.ntmps20
      go_wp2
      go_ret
      exact ⟨ret_int (by rw [H.out]; try omega), rfl⟩
    · have H : Hid (max a (min n b) = a) := Lib.hid (by omega)
      go_enter Try.func20, Try.ntmps20
      go_wp2
      go_ret
      exact ⟨ret_int (by rw [H.out]; try omega), rfl⟩

theorem lim_eq (r : Int) : max 25 (min r 400) = D.lim r := by
  unfold D.lim; split
  · omega
  · split <;> omega
theorem tim_eq (t : Int) : max 0 (min t 1099511627776) = D.tim t := by
  unfold D.tim; split
  · omega
  · split <;> omega

theorem refword_any (s : ByteArray) (r : Int) (w : World) (hs : s.size ≤ 100) :
    Calls Try.prog 15 #[.string s, .int .i64 r] w fun e w' => e = .returned (.int .i64 (D.word s.size r)) ∧ w = w' := by
  have hl := D.lim_bd r
  have hw := D.word_bd s.size r hs
  have hlt := fun k => D.word_lt s.size r k
  have HW := Lib.hid hlt
  clear hlt
  have HL := Lib.hid (lim_eq r)
  generalize D.word s.size r = W at *
  go_enter Try.func15, Try.ntmps15
  go_wp2_with (go_at_call 20; refine (limited_any _ _ _ _).mono ?_; rintro e w' ⟨rfl, rfl⟩; rw [HL.out])
  generalize D.lim r = c at *
  go_loop [6] (fun i => ∃ k : Nat, (k : Int) ≤ W ∧ i = .int .i64 k) (fun i => (W - intOf i).toNat)
  case atStart => exact ⟨0, by omega, rfl⟩
  case round =>
    obtain ⟨k, hk, rfl⟩ := hrel
    have hiff := HW.out k
    have hb : (k : Int) * c ≤ 16320 * 400 := Int.mul_le_mul (by omega) (by omega) (by omega) (by omega)
    have hb0 : 0 ≤ (k : Int) * c := Int.mul_nonneg (by omega) (by omega)
    by_cases h : (k : Int) < W
    · have h2 := hiff.1 h
      clear hiff
      go_wp2
      go_round
      case rel => exact ⟨k + 1, by omega, by go_num⟩
      case measure => simp [intOf]; omega
    · have h2 : ¬ (k : Int) * c < ((s.size : Int) + 2) * 4000 := fun hh => h (hiff.2 hh)
      clear hiff
      have hkw : (k : Int) = W := by omega
      have HK := Lib.hid hkw
      clear hkw
      go_wp2
      go_ret
      exact ⟨ret_int HK.out, rfl⟩

theorem refwords_any (A : Option Addr) (c B : Nat) (ss : List ByteArray) (r : Int) (w : World) (hr : Reads w B 1 A ss.length (ss.map Value.string)) (hl : ss.length ≤ 120) (hs : ∀ s ∈ ss, s.size ≤ 100) :
    Calls Try.prog 16 #[.slice A ss.length c, .int .i64 r] w fun e w' => e = .returned (.int .i64 (D.words (ss.map (·.size)) r)) ∧ w = w' := by
  go_enter Try.func16, Try.ntmps16
  go_wp2
  go_loop [5, 6] (fun n i => ∃ k : Nat, k ≤ ss.length ∧ i = .int .i64 k ∧ n = .int .i64 (D.words ((ss.take k).map (·.size)) r)) (fun _ i => ss.length - (intOf i).toNat)
  case atStart => exact ⟨0, Nat.zero_le _, rfl, rfl⟩
  case round =>
    obtain ⟨k, hk, rfl, rfl⟩ := hrel
    by_cases hlt : k < ss.length
    · obtain ⟨ad, rfl, hlo, hc⟩ := hr.2 (by omega)
      have hcell : w.cell? (ad.add k) = some (.string ss[k]) := hc k _ (by simp [hlt])
      have hsz : (ss[k]).size ≤ 100 := hs _ (List.getElem_mem hlt)
      have h0 := take_bd ss k r hl hs
      have HS := Lib.hid (take_words ss k hlt r)
      have h1 := D.word_bd (ss[k]).size r hsz
      generalize ss[k] = s at *
      clear hc hs hr
      generalize D.words ((ss.take k).map (·.size)) r = acc at *
      have h3 : acc + D.word s.size r ≤ 1000000000 := by omega
      go_wp2_with (go_at_call 15; refine (refword_any _ _ _ hsz).mono ?_; rintro e w' ⟨rfl, rfl⟩)
      go_round
      case rel => exact ⟨k + 1, hlt, by go_num, by rw [HS.out]⟩
      case measure => simp [intOf]; omega
    · have hkk : k = ss.length := by omega
      subst hkk
      go_wp2
      go_ret
      exact ⟨ret_int (by simp), rfl⟩

theorem refuntil_any (A : Option Addr) (c B : Nat) (ss : List ByteArray) (r t : Int) (w : World) (hr : Reads w B 1 A ss.length (ss.map Value.string)) (hl : ss.length ≤ 120) (hs : ∀ s ∈ ss, s.size ≤ 100) :
    Calls Try.prog 18 #[.slice A ss.length c, .int .i64 r, .int .i64 t] w fun e w' => e = .returned (.int .i64 (D.tim t + D.words (ss.map (·.size)) r)) ∧ w = w' := by
  have h0 := take_bd ss ss.length r hl hs
  rw [List.take_length] at h0
  have hw := refwords_any A c B ss r w hr hl hs
  have HW := Lib.hid hw
  clear hw
  have ht := D.tim_bd t
  have HT := Lib.hid (tim_eq t)
  generalize D.words (ss.map (·.size)) r = x at *
  clear hs hr
  go_enter Try.func18, Try.ntmps18
  go_wp2_with (first
    | (go_at_call 20; refine (limited_any _ _ _ _).mono ?_; rintro e w' ⟨rfl, rfl⟩; rw [HT.out])
    | (go_at_call 16; refine HW.out.mono ?_; rintro e w' ⟨rfl, rfl⟩))
  go_ret
  exact ⟨rfl, rfl⟩

/-! ### The law's own example -/
theorem w_done_100 (w : World) : Calls Try.prog 14 #[.string { data := #[100, 111, 110, 101] }, .int .i64 100] w fun e w' => e = .returned (.int .i64 240) ∧ w = w' :=
  word_any { data := #[100, 111, 110, 101] } 100 w (by decide)
theorem w_done_300 (w : World) : Calls Try.prog 14 #[.string { data := #[100, 111, 110, 101] }, .int .i64 300] w fun e w' => e = .returned (.int .i64 80) ∧ w = w' :=
  word_any { data := #[100, 111, 110, 101] } 300 w (by decide)
theorem w_a_300 (w : World) : Calls Try.prog 14 #[.string { data := #[97] }, .int .i64 300] w fun e w' => e = .returned (.int .i64 40) ∧ w = w' :=
  word_any { data := #[97] } 300 w (by decide)
theorem w_ab (b : Nat) (w : World) (hb : b < w.heap.size) (c0 : w.cell? ⟨b, 0, none⟩ = some (.string { data := #[97] })) (c1 : w.cell? ⟨b, 1, none⟩ = some (.string { data := #[98] })) :
    Calls Try.prog 13 #[.slice (some ⟨b, 0, none⟩) 2 2, .int .i64 100] w fun e w' => e = .returned (.int .i64 240) ∧ Below w.heap.size w w' :=
  words_any (some ⟨b, 0, none⟩) 2 w.heap.size [{ data := #[97] }, { data := #[98] }] 100 w ⟨rfl, fun _ => ⟨_, rfl, hb, fun j u hj => by
    match j, hj with
    | 0, hj => simp at hj; subst hj; exact c0
    | 1, hj => simp at hj; subst hj; exact c1
    | j + 2, hj => simp at hj⟩⟩ (Nat.le_refl _) (by decide) (by decide)

theorem awake_any (w : World) : Calls Try.prog 12 #[] w fun e w' => e = .returned (.bool true) ∧ Below w.heap.size w w' := by
  have c0 : (w.alloc (.cells #[.string { data := #[97] }, .string { data := #[98] }] 9)).cell? ⟨w.heap.size, 0, none⟩ = some (.string { data := #[97] }) := by simp [World.cell?_alloc_new]
  have c1 : (w.alloc (.cells #[.string { data := #[97] }, .string { data := #[98] }] 9)).cell? ⟨w.heap.size, 1, none⟩ = some (.string { data := #[98] }) := by simp [World.cell?_alloc_new]
  have hs : w.heap.size < (w.alloc (.cells #[.string { data := #[97] }, .string { data := #[98] }] 9)).heap.size := by simp
  go_enter Try.func12, Try.ntmps12
  go_wp2_with fail
  refine (w_done_100 _).mono ?_
  rintro e w' ⟨rfl, rfl⟩
  go_wp2_with fail
  refine (w_ab _ _ hs c0 c1).mono ?_
  rintro e w' ⟨rfl, hb⟩
  go_wp2_with fail
  refine (w_done_300 _).mono ?_
  rintro e w2 ⟨rfl, rfl⟩
  go_wp2_with fail
  refine (w_a_300 _).mono ?_
  rintro e w2 ⟨rfl, rfl⟩
  go_wp2_with fail
  go_ret
  exact ⟨rfl, ((Below.refl _ _).alloc (Nat.le_refl _) _).trans (hb.mono (by simp))⟩
end Go.Proofs.Ytfcanmicjpjjoaa
