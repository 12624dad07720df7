/-
  The statements of layer 16: EditscriptRoundTrip. By an AI agent.
-/
import Derived.Test.YtpigimmgadcogaaAp
namespace Go.Proofs.Ytpigimmgadcogaa
open Go.RowKit

namespace E
theorem script_low {a b : List Int} (hna : a.length ≤ 30) (hnb : b.length ≤ 30) : (script a b).length ≤ 60 ∧ ∀ x ∈ script a b, 0 ≤ x.del ∧ x.del ≤ 60 ∧ x.ins.length ≤ 60 := by
  have h := (sst_low b (ys a b)).1
  have hl := ys_len a b
  rw [sst_script] at h
  exact ⟨by have := h.1; omega, fun x hx => by have := h.2 x hx; omega⟩
theorem weight_step {l : List (Ed Int)} {k : Nat} (h : k < l.length) : weight (l.take (k + 1)) = weight (l.take k) + (l[k].del + (l[k].ins.length : Int)) := by
  rw [List.take_succ_eq_append_getElem h, weight_append]
  simp
end E

set_option maxRecDepth 10000 in
set_option maxHeartbeats 8000000 in
theorem round_any (A1 : Option Addr) (c1 : Nat) (a : List Int) (A2 : Option Addr) (c2 : Nat) (b : List Int) (w : World)
    (ha : Reads w w.heap.size 1 A1 a.length (E.ns a)) (hcap : a.length ≤ c1) (ya : a.length ≤ 17592186043904)
    (hb : Reads w w.heap.size 1 A2 b.length (E.ns b)) (_ : b.length ≤ c2) (yb : b.length ≤ 17592186043904) :
    Calls Try.prog 9 #[.slice A1 a.length c1, .slice A2 b.length c2] w fun e w' => e = .returned (.bool true) ∧ Below w.heap.size w w' := by
  have SM := Lib.hid (small2_any A1 A2 c1 c2 a.length b.length w (by simp only [maxLen]; omega) (by simp only [maxLen]; omega))
  have hb0 : Below w.heap.size w (w.alloc (.cells #[.slice A1 a.length c1, .slice A2 b.length c2] 22)) := (Below.refl _ _).alloc (Nat.le_refl _) _
  cases hs : E.small [a.length, b.length]
  · rw [hs] at SM
    clear hs ha hb
    go_enter Try.func9, Try.ntmps9
    go_wp2_with fail
    refine SM.out.mono ?_
    rintro e w1 ⟨rfl, rfl⟩
    go_wp2_with fail
    refine (awake_any _).mono ?_
    rintro e w2 ⟨rfl, b2⟩
    go_wp2_with fail
    go_ret
    exact ⟨rfl, hb0.trans (b2.mono hb0.size)⟩
  · obtain ⟨n1, n2⟩ := E.small2 hs
    rw [hs] at SM
    have S : Hid (∀ w', Below w.heap.size w w' → Calls Try.prog 17 #[.slice A1 a.length c1, .slice A2 b.length c2] w' fun e W' => E.Out w' W' e (E.script a b)) := Lib.hid (fun w' hbl =>
      script_any A1 A2 c1 c2 w.heap.size a b w' (ha.below hbl (Nat.le_refl _)) (hb.below hbl (Nat.le_refl _)) hbl.size (by omega) (by omega))
    have D : Hid (∀ w', Below w.heap.size w w' → Calls Try.prog 13 #[.slice A1 a.length c1, .slice A2 b.length c2] w' fun e w'' => e = .returned (.int .i64 (E.dist a b)) ∧ Below w'.heap.size w' w'') := Lib.hid (fun w' hbl =>
      dist_any A1 A2 c1 c2 w.heap.size a b w' (ha.below hbl (Nat.le_refl _)) (hb.below hbl (Nat.le_refl _)) hbl.size (by omega) (by omega))
    have H1 := Lib.hid ha
    have H2 := Lib.hid hb
    have HAP := Lib.hid (E.app_script a b)
    have HW := Lib.hid (E.script_weight a b)
    obtain ⟨hsl, hlow⟩ := E.script_low n1 n2
    have HLOW := Lib.hid hlow
    clear hs ha hb hlow
    go_enter Try.func9, Try.ntmps9
    go_wp2_with fail
    refine SM.out.mono ?_
    rintro e w1 ⟨rfl, rfl⟩
    generalize w.alloc _ = w1 at *
    go_wp2_with fail
    refine (S.out _ hb0).mono ?_
    rintro e w2 ⟨A4, c4, es, rfl, r4, e4, b2⟩
    have hb2 := hb0.trans (b2.mono hb0.size)
    have hel : es.length ≤ 60 := by have := congrArg List.length e4; simp at this; omega
    have AP := apply_any A1 A4 c1 c4 w2.heap.size a es w2 ((H1.out.below hb2 (Nat.le_refl _)).more hb2.size) hcap r4 (Nat.le_refl _) (by omega) (by omega)
    rw [e4, HAP.out] at AP
    replace AP := Lib.hid AP
    have E4 := Lib.hid e4
    have R4 := Lib.hid r4
    clear e4 r4
    go_wp2_with fail
    refine AP.out.mono ?_
    rintro e w3 ⟨v, rfl, hown, b3⟩
    obtain ⟨A5, c5, rfl, r5⟩ := own_reads hown
    have R5 := Lib.hid r5
    have hb3 := hb2.trans (b3.mono hb2.size)
    simp only [E.code, E.got] at R5 ⊢
    clear hown r5 AP
    go_wp2
    go_loopw [8, 28] (fun vn vi wr => ∃ (k : Nat) (n : Int), k ≤ es.length ∧ vi = .int .i64 k ∧ vn = .int .i64 n ∧ 0 ≤ n ∧ n ≤ k * 120 ∧ Hid (n = E.weight ((es.map (·.ed)).take k)) ∧ Below w3.heap.size w3 wr) (fun _ vi _ => es.length - (intOf vi).toNat)
    case atStart => exact ⟨0, 0, Nat.zero_le _, rfl, rfl, by omega, by omega, Lib.hid (by simp), Below.refl _ _⟩
    case round =>
      obtain ⟨k, n, hk, rfl, rfl, hn0, hn1, hn, hbr⟩ := hrel
      have hb4 := hb3.trans (hbr.mono hb3.size)
      by_cases hlt : k < es.length
      · have r4 := (R4.out.below b3 (Nat.le_refl _)).below hbr b3.size
        obtain ⟨bb, off, rfl, hlo, hc⟩ := E.edD r4.row (by omega)
        obtain ⟨x0, x1, x2⟩ := hc k hlt
        obtain ⟨Ai, ci, hsl', -, li⟩ := r4.ins es[k] (List.getElem_mem hlt)
        have hlw := HLOW.out es[k].ed (by rw [← E4.out]; exact List.mem_map.2 ⟨_, List.getElem_mem hlt, rfl⟩)
        have hst := E.weight_step (l := es.map (·.ed)) (k := k) (by simpa using hlt)
        simp only [List.getElem_map] at hst
        rw [← hn.out] at hst
        have hn2 := Lib.hid hst
        have hbl : bb < wr.heap.size := by have := b3.size; have := hbr.size; omega
        have q1 : (k : Int) < (es.length : Int) := by omega
        clear hc hst r4 hn
        generalize es[k] = x at *
        obtain ⟨⟨xa, xd, xi⟩, xs'⟩ := x
        dsimp only at *
        subst hsl'
        have u1 : IntKind.i64.wrap (xd + (xi.length : Int)) = xd + (xi.length : Int) := by simp [IntKind.wrap, IntKind.bits, IntKind.signed]; omega
        have u2 : IntKind.i64.wrap (n + (xd + (xi.length : Int))) = n + (xd + (xi.length : Int)) := by simp [IntKind.wrap, IntKind.bits, IntKind.signed]; omega
        go_wp2
        go_roundw
        case rel => exact ⟨k + 1, n + (xd + (xi.length : Int)), hlt, by go_num, rfl, by omega, by omega, Lib.hid hn2.out.symm, hbr.alloc hbr.size _⟩
        case measure => simp [intOf] <;> omega
      · obtain rfl : k = es.length := by omega
        have e1 : (es.map (·.ed)).take es.length = es.map (·.ed) := List.take_of_length_le (by simp)
        have hnd : n = (E.dist a b : Int) := by rw [hn.out, e1, E4.out, HW.out]
        subst hnd
        have SI := Lib.hid (sameints_any A5 A2 c5 c2 w3.heap.size b b wr (R5.out.below hbr (Nat.le_refl _)) (((H2.out.below hb3 (Nat.le_refl _)).more hb3.size).below hbr (Nat.le_refl _)) (by omega) (by omega))
        rw [decide_eq_true rfl] at SI
        clear hn hn0 hn1 e1
        go_wp2_with fail
        refine SI.out.mono ?_
        rintro e w5 ⟨rfl, n5, rfl⟩
        have hb5 := below_drewN hb4 n5
        generalize wr.drewN n5 = w5 at *
        go_wp2_with fail
        refine (D.out _ hb5).mono ?_
        rintro e w6 ⟨rfl, b6⟩
        have hb6 := hb5.trans (b6.mono hb5.size)
        go_wp2_with fail
        refine (awake_any _).mono ?_
        rintro e w7 ⟨rfl, b7⟩
        go_wp2_with fail
        go_ret
        exact ⟨rfl, hb6.trans (b7.mono hb6.size)⟩
end Go.Proofs.Ytpigimmgadcogaa
