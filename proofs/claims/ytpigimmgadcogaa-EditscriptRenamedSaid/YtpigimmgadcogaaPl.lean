/-
  The walks of layer 16: edits of one type to edits of the other. By an AI agent.
-/
import Derived.Test.YtpigimmgadcogaaScp
namespace Go.Proofs.Ytpigimmgadcogaa
open Go.RowKit

namespace E
theorem edD {w : World} {B : Nat} {A : Option Addr} {xs : List (Es Int)} (h : Reads w B 3 A xs.length (xs.flatMap ec)) (hn : 0 < xs.length) :
    ∃ b off, A = some ⟨b, off, none⟩ ∧ b < B ∧ ∀ k (hk : k < xs.length), w.cell? ⟨b, off + k * 3, none⟩ = some (.int .i64 xs[k].ed.at_) ∧ w.cell? ⟨b, off + k * 3 + 1, none⟩ = some (.int .i64 xs[k].ed.del) ∧ w.cell? ⟨b, off + k * 3 + 2, none⟩ = some xs[k].sl := by
  obtain ⟨b, off, hA, hb, hc⟩ := h.flat hn (by decide)
  refine ⟨b, off, hA, hb, fun k hk => ?_⟩
  have c : ∀ j u, j < 3 → (ec xs[k])[j]? = some u → w.cell? ⟨b, off + (k * 3 + j), none⟩ = some u := fun j u hj hu => hc (k * 3 + j) u (by
    rw [flat_get ec 3 xs ec_len k j hj, List.getElem?_eq_getElem hk]
    exact hu)
  exact ⟨c 0 _ (by decide) rfl, c 1 _ (by decide) rfl, c 2 _ (by decide) rfl⟩
end E
theorem infoRef : (Try.prog.info? 37).map (fun i => (i.zero, i.size, i.bytes)) = some (some (.agg #[.int .i64 0, .int .i64 0, .slice none 0 0]), 3, 40) := by kernel_rfl

set_option maxRecDepth 10000 in
set_option maxHeartbeats 4000000 in
theorem plain_any (A : Option Addr) (c B : Nat) (xs : List (E.Es Int)) (w : World) (hr : Reads w B 3 A xs.length (xs.flatMap E.ec)) (h1c : ∀ x ∈ xs, ∃ A' n c, x.sl = .slice A' n c) (hB : B ≤ w.heap.size) (hl : xs.length ≤ 100000) :
    Calls Try.prog 16 #[.slice A xs.length c] w fun e W' => ∃ v, e = .returned v ∧ W'.ownsRow w.heap.size 37 3 v xs.length (xs.flatMap E.ec) ∧ Below w.heap.size w W' := by
  have own0 := World.ownsRow_lit (base := w.heap.size) (e := 37) (size := 3) w #[] 0 (Nat.le_refl _) (by decide) rfl
  have hb0 : Below w.heap.size w (w.alloc (.cells #[] 37)) := (Below.refl _ _).alloc (Nat.le_refl _) _
  have OWN0 := Lib.hid own0
  have HR := Lib.hid hr
  have H1 := Lib.hid h1c
  clear own0 hr h1c
  obtain ⟨i0, hi0, hz0, hz1, hz2⟩ := info_parts infoRef
  go_enter Try.func16, Try.ntmps16
  go_wp2
  go_loopw [3, 9] (fun v i wr => ∃ k : Nat, k ≤ xs.length ∧ i = .int .i64 k ∧ wr.ownsRow w.heap.size 37 3 v k ((xs.take k).flatMap E.ec) ∧ Below w.heap.size w wr) (fun _ i _ => xs.length - (intOf i).toNat)
  case atStart => exact ⟨0, Nat.zero_le _, rfl, by simpa using OWN0.out, hb0⟩
  case round =>
    clear hb0 OWN0
    obtain ⟨k, hk, rfl, hown, hb⟩ := hrel
    by_cases hlt : k < xs.length
    · obtain ⟨b, off, rfl, hlo, hc⟩ := E.edD (HR.out.below hb hB) (by omega)
      obtain ⟨c0, c1, c2⟩ := hc k hlt
      obtain ⟨sa, sn, sc, hsl⟩ := H1.out xs[k] (List.getElem_mem hlt)
      have hbl : b < wr.heap.size := by have := hb.size; omega
      have q1 : (k : Int) < (xs.length : Int) := by omega
      have HT : Hid ((xs.take (k + 1)).flatMap E.ec = (xs.take k).flatMap E.ec ++ E.ec xs[k]) := Lib.hid (by rw [List.take_succ_eq_append_getElem hlt, List.flatMap_append]; simp)
      clear hc
      unfold E.ec at HT
      generalize xs[k] = x at *
      obtain ⟨⟨xa, xd, xi⟩, xs'⟩ := x
      dsimp only at *
      subst hsl
      go_wp2_with (at_builtin; refine wpList_append_any _ rfl (.tmp 13) (.tmp 21) _ rfl w.heap.size 37 i0 _ 3 40 Try.underlying27 hi0 hz0 hz1 hz2 rfl (by decide) u3 _ _ rfl ((hown.alloc (.cells #[.int .i64 xa, .int .i64 xd, .slice sa sn sc] 43)).alloc (.cells #[.int .i64 xa, .int .i64 xd, .slice sa sn sc] 37)) _ _ 1 1 [.int .i64 xa, .int .i64 xd, .slice sa sn sc] rfl (reads_block_at (wr.alloc (.cells #[.int .i64 xa, .int .i64 xd, .slice sa sn sc] 43)) [.int .i64 xa, .int .i64 xd, .slice sa sn sc] 37 3 1 rfl (by simp)) (by simp [Value.oneCell']) (by simp only [maxLen]; omega) (by omega) (by have := hb.size; simp; omega) ?_; intro v' W2 hown' hgrow hnew; clear hnew)
      have hb2 : Below w.heap.size w W2 := ((hb.alloc hb.size (.cells #[.int .i64 xa, .int .i64 xd, .slice sa sn sc] 43)).alloc (by have := hb.size; simp; omega) (.cells #[.int .i64 xa, .int .i64 xd, .slice sa sn sc] 37)).grown hgrow (by have := hb.size; simp; omega) (own_below hown (Nat.le_refl _))
      rw [show (List.flatMap E.ec (List.take k xs) ++ [.int .i64 xa, .int .i64 xd, .slice sa sn sc]) = (xs.take (k + 1)).flatMap E.ec from HT.out.symm] at hown'
      go_roundw
      case rel => exact ⟨k + 1, hlt, by go_num, hown', hb2⟩
      case measure => simp [intOf] <;> omega
    · obtain rfl : k = xs.length := by omega
      rw [List.take_length] at hown
      go_wp2
      go_ret
      exact ⟨_, rfl, hown, hb⟩

set_option maxRecDepth 10000 in
set_option maxHeartbeats 4000000 in
theorem edits_any (A : Option Addr) (c B : Nat) (xs : List (E.Es Int)) (w : World) (hr : Reads w B 3 A xs.length (xs.flatMap E.ec)) (h1c : ∀ x ∈ xs, ∃ A' n c, x.sl = .slice A' n c) (hB : B ≤ w.heap.size) (hl : xs.length ≤ 100000) :
    Calls Try.prog 25 #[.slice A xs.length c] w fun e W' => ∃ v, e = .returned v ∧ W'.ownsRow w.heap.size 43 3 v xs.length (xs.flatMap E.ec) ∧ Below w.heap.size w W' := by
  have own0 := World.ownsRow_lit (base := w.heap.size) (e := 43) (size := 3) w #[] 0 (Nat.le_refl _) (by decide) rfl
  have hb0 : Below w.heap.size w (w.alloc (.cells #[] 43)) := (Below.refl _ _).alloc (Nat.le_refl _) _
  have OWN0 := Lib.hid own0
  have HR := Lib.hid hr
  have H1 := Lib.hid h1c
  clear own0 hr h1c
  obtain ⟨i0, hi0, hz0, hz1, hz2⟩ := info_parts infoEd
  go_enter Try.func25, Try.ntmps25
  go_wp2
  go_loopw [3, 9] (fun v i wr => ∃ k : Nat, k ≤ xs.length ∧ i = .int .i64 k ∧ wr.ownsRow w.heap.size 43 3 v k ((xs.take k).flatMap E.ec) ∧ Below w.heap.size w wr) (fun _ i _ => xs.length - (intOf i).toNat)
  case atStart => exact ⟨0, Nat.zero_le _, rfl, by simpa using OWN0.out, hb0⟩
  case round =>
    clear hb0 OWN0
    obtain ⟨k, hk, rfl, hown, hb⟩ := hrel
    by_cases hlt : k < xs.length
    · obtain ⟨b, off, rfl, hlo, hc⟩ := E.edD (HR.out.below hb hB) (by omega)
      obtain ⟨c0, c1, c2⟩ := hc k hlt
      obtain ⟨sa, sn, sc, hsl⟩ := H1.out xs[k] (List.getElem_mem hlt)
      have hbl : b < wr.heap.size := by have := hb.size; omega
      have q1 : (k : Int) < (xs.length : Int) := by omega
      have HT : Hid ((xs.take (k + 1)).flatMap E.ec = (xs.take k).flatMap E.ec ++ E.ec xs[k]) := Lib.hid (by rw [List.take_succ_eq_append_getElem hlt, List.flatMap_append]; simp)
      clear hc
      unfold E.ec at HT
      generalize xs[k] = x at *
      obtain ⟨⟨xa, xd, xi⟩, xs'⟩ := x
      dsimp only at *
      subst hsl
      go_wp2_with (at_builtin; refine wpList_append_any _ rfl (.tmp 13) (.tmp 21) _ rfl w.heap.size 43 i0 _ 3 40 Try.underlying29 hi0 hz0 hz1 hz2 rfl (by decide) u3 _ _ rfl ((hown.alloc (.cells #[.int .i64 xa, .int .i64 xd, .slice sa sn sc] 37)).alloc (.cells #[.int .i64 xa, .int .i64 xd, .slice sa sn sc] 43)) _ _ 1 1 [.int .i64 xa, .int .i64 xd, .slice sa sn sc] rfl (reads_block_at (wr.alloc (.cells #[.int .i64 xa, .int .i64 xd, .slice sa sn sc] 37)) [.int .i64 xa, .int .i64 xd, .slice sa sn sc] 43 3 1 rfl (by simp)) (by simp [Value.oneCell']) (by simp only [maxLen]; omega) (by omega) (by have := hb.size; simp; omega) ?_; intro v' W2 hown' hgrow hnew; clear hnew)
      have hb2 : Below w.heap.size w W2 := ((hb.alloc hb.size (.cells #[.int .i64 xa, .int .i64 xd, .slice sa sn sc] 37)).alloc (by have := hb.size; simp; omega) (.cells #[.int .i64 xa, .int .i64 xd, .slice sa sn sc] 43)).grown hgrow (by have := hb.size; simp; omega) (own_below hown (Nat.le_refl _))
      rw [show (List.flatMap E.ec (List.take k xs) ++ [.int .i64 xa, .int .i64 xd, .slice sa sn sc]) = (xs.take (k + 1)).flatMap E.ec from HT.out.symm] at hown'
      go_roundw
      case rel => exact ⟨k + 1, hlt, by go_num, hown', hb2⟩
      case measure => simp [intOf] <;> omega
    · obtain rfl : k = xs.length := by omega
      rw [List.take_length] at hown
      go_wp2
      go_ret
      exact ⟨_, rfl, hown, hb⟩
end Go.Proofs.Ytpigimmgadcogaa
