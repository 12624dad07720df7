/-
  The walks of layer 43: what Word, Words, Until, long and the reference's functions return. By an AI agent.
-/
import Derived.Test.YtfcanmicjpjjoaaRows
import Derived.Test.YtfcanmicjpjjoaaPlain
import Derived.Test.YtfcanmicjpjjoaaBase
namespace Go.Proofs.Ytfcanmicjpjjoaa
open Go.RowKit

theorem word_any (s : ByteArray) (r : Int) (w : World) (hs : s.size ≤ 1000) :
    Calls Try.prog 14 #[.string s, .int .i64 r] w fun e w' => e = .returned (.int .i64 (D.word s.size r)) ∧ w = w' := by
  by_cases h1 : r < 25
  · have hl : D.lim r = 25 := by simp [D.lim, h1]
    have H : Hid (D.word s.size r = ((s.size + 2) * 4000 + 25 - 1) / 25) := Lib.hid (by unfold D.word; rw [hl])
    clear hl
    go_enter Try.func14, Try.ntmps14
    go_wp2
    go_ret
    exact ⟨ret_int H.out.symm, rfl⟩
  by_cases h2 : 400 < r
  · have hl : D.lim r = 400 := by simp [D.lim, h1, h2]
    have H : Hid (D.word s.size r = ((s.size + 2) * 4000 + 400 - 1) / 400) := Lib.hid (by unfold D.word; rw [hl])
    clear hl
    go_enter Try.func14, Try.ntmps14
    go_wp2
    go_ret
    exact ⟨ret_int H.out.symm, rfl⟩
  · have hl : D.lim r = r := by simp [D.lim, h1, h2]
    have H : Hid (D.word s.size r = ((s.size + 2) * 4000 + r - 1) / r) := Lib.hid (by unfold D.word; rw [hl])
    clear hl
    go_enter Try.func14, Try.ntmps14
    go_wp2
    go_ret
    exact ⟨ret_int H.out.symm, rfl⟩

theorem total_any (b n : Nat) (x y : Int) (w : World) (hx : 0 ≤ x) (hy : 0 ≤ y) (hxy : x + y ≤ 1000000000) (c0 : w.cell? ⟨b, 0, none⟩ = some (.int .i64 x)) (c1 : w.cell? ⟨b, 1, none⟩ = some (.int .i64 y)) :
    Calls Try.prog 19 #[.slice (some ⟨b, 0, none⟩) 2 n] w fun e w' => e = .returned (.int .i64 (x + y)) ∧ w = w' := by
  go_enter Try.func19, Try.ntmps19
  go_wp2
  refine wp_loop_rounds 3 ?_
  rw [rounds_succ]
  go_wp2
  rw [rounds_succ]
  go_wp2
  rw [rounds_succ]
  go_wp2
  go_ret
  exact ⟨rfl, rfl⟩

theorem take_words (ss : List ByteArray) (k : Nat) (h : k < ss.length) (r : Int) :
    D.words ((ss.take (k + 1)).map (·.size)) r = D.words ((ss.take k).map (·.size)) r + D.word (ss[k]).size r := by
  rw [List.take_succ_eq_append_getElem h, List.map_append, D.words_append]; simp [D.words]

theorem take_bd (ss : List ByteArray) (k : Nat) (r : Int) (hl : ss.length ≤ 120) (hs : ∀ s ∈ ss, s.size ≤ 100) :
    0 ≤ D.words ((ss.take k).map (·.size)) r ∧ D.words ((ss.take k).map (·.size)) r ≤ 16320 * 120 := by
  have h := D.words_bd ((ss.take k).map (·.size)) r (by intro n hn; simp only [List.mem_map] at hn; obtain ⟨x, hx, rfl⟩ := hn; exact hs x (List.mem_of_mem_take hx))
  simp only [List.length_map, List.length_take] at h
  omega

theorem words_any (A : Option Addr) (c B : Nat) (ss : List ByteArray) (r : Int) (w : World) (hr : Reads w B 1 A ss.length (ss.map Value.string)) (hB : B ≤ w.heap.size) (hl : ss.length ≤ 120) (hs : ∀ s ∈ ss, s.size ≤ 100) :
    Calls Try.prog 13 #[.slice A ss.length c, .int .i64 r] w fun e w' => e = .returned (.int .i64 (D.words (ss.map (·.size)) r)) ∧ Below w.heap.size w w' := by
  go_enter Try.func13, Try.ntmps13
  go_wp2
  go_loopw [5, 10] (fun n i wr => ∃ k : Nat, k ≤ ss.length ∧ i = .int .i64 k ∧ n = .int .i64 (D.words ((ss.take k).map (·.size)) r) ∧ Below w.heap.size w wr) (fun _ i _ => ss.length - (intOf i).toNat)
  case atStart => exact ⟨0, Nat.zero_le _, rfl, rfl, Below.refl _ _⟩
  case round =>
    obtain ⟨k, hk, rfl, rfl, hb⟩ := hrel
    by_cases hlt : k < ss.length
    · obtain ⟨ad, rfl, hlo, hc⟩ := hr.2 (by omega)
      have hcell : wr.cell? (ad.add k) = some (.string ss[k]) := (hb.cell (by rw [block_of_add]; omega)).trans (hc k _ (by simp [hlt]))
      have hsz : (ss[k]).size ≤ 100 := hs _ (List.getElem_mem hlt)
      have h0 := take_bd ss k r hl hs
      have HS := Lib.hid (take_words ss k hlt r)
      have h1 := D.word_bd (ss[k]).size r hsz
      generalize ss[k] = s at *
      clear hc hs hr
      generalize D.words ((ss.take k).map (·.size)) r = acc at *
      have c0 : (wr.alloc (.cells #[.int .i64 acc, .int .i64 (D.word s.size r)] 3)).cell? ⟨wr.heap.size, 0, none⟩ = some (.int .i64 acc) := by simp [World.cell?_alloc_new]
      have c1 : (wr.alloc (.cells #[.int .i64 acc, .int .i64 (D.word s.size r)] 3)).cell? ⟨wr.heap.size, 1, none⟩ = some (.int .i64 (D.word s.size r)) := by simp [World.cell?_alloc_new]
      have h2 : 0 ≤ D.word s.size r := by omega
      have hsz2 : s.size ≤ 1000 := by omega
      have h3 : acc + D.word s.size r ≤ 1000000000 := by omega
      go_wp2_with (first
        | (go_at_call 14; refine (word_any _ _ _ hsz2).mono ?_; rintro e w' ⟨rfl, rfl⟩)
        | (go_at_call 19; refine (total_any _ _ _ _ _ h0.1 h2 h3 c0 c1).mono ?_; rintro e w' ⟨rfl, rfl⟩))
      go_roundw
      case rel => exact ⟨k + 1, hlt, by go_num, by rw [HS.out], hb.trans (((Below.refl _ _).alloc (Nat.le_refl _) _).mono hb.size)⟩
      case measure => simp [intOf]; omega
    · have hkk : k = ss.length := by omega
      subst hkk
      go_wp2
      go_ret
      exact ⟨ret_int (by rw [List.take_length]), hb⟩

/-- A time, within 0 and MaxTime. -/
def D.tim (t : Int) : Int := if t < 0 then 0 else if 1099511627776 < t then 1099511627776 else t
theorem D.tim_bd (t : Int) : 0 ≤ D.tim t ∧ D.tim t ≤ 1099511627776 := by
  unfold D.tim; split
  · omega
  · split <;> omega

theorem until_any (A : Option Addr) (c B : Nat) (ss : List ByteArray) (r t : Int) (w : World) (hr : Reads w B 1 A ss.length (ss.map Value.string)) (hB : B ≤ w.heap.size) (hl : ss.length ≤ 120) (hs : ∀ s ∈ ss, s.size ≤ 100) :
    Calls Try.prog 17 #[.slice A ss.length c, .int .i64 r, .int .i64 t] w fun e w' => e = .returned (.int .i64 (D.tim t + D.words (ss.map (·.size)) r)) ∧ Below w.heap.size w w' := by
  have h0 := take_bd ss ss.length r hl hs
  rw [List.take_length] at h0
  have hw := words_any A c B ss r w hr hB hl hs
  have HW := Lib.hid hw
  clear hw
  generalize D.words (ss.map (·.size)) r = x at *
  clear hs hr
  by_cases h1 : t < 0
  · have H : Hid (D.tim t = 0) := Lib.hid (by simp [D.tim, h1])
    go_enter Try.func17, Try.ntmps17
    go_wp2_with (go_at_call 13; refine HW.out.mono ?_; rintro e w' ⟨rfl, hb⟩)
    go_ret
    exact ⟨ret_int (by rw [H.out]; omega), hb⟩
  by_cases h2 : 1099511627776 < t
  · have H : Hid (D.tim t = 1099511627776) := Lib.hid (by simp [D.tim, h1, h2])
    go_enter Try.func17, Try.ntmps17
    go_wp2_with (go_at_call 13; refine HW.out.mono ?_; rintro e w' ⟨rfl, hb⟩)
    go_ret
    exact ⟨ret_int (by rw [H.out]), hb⟩
  · have H : Hid (D.tim t = t) := Lib.hid (by simp [D.tim, h1, h2])
    go_enter Try.func17, Try.ntmps17
    go_wp2_with (go_at_call 13; refine HW.out.mono ?_; rintro e w' ⟨rfl, hb⟩)
    go_ret
    exact ⟨ret_int (by rw [H.out]), hb⟩
end Go.Proofs.Ytfcanmicjpjjoaa
