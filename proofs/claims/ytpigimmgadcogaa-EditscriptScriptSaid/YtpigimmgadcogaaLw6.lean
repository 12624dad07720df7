/-
  The statements of layer 16: EditscriptApply. By an AI agent.
-/
import Derived.Test.YtpigimmgadcogaaRap
namespace Go.Proofs.Ytpigimmgadcogaa
open Go.RowKit

theorem small1_at (A1 : Option Addr) (c1 n1 : Nat) (w : World) (h1 : n1 ≤ maxLen) {N : Nat} (h : w.heap.size = N) :
    Calls Try.prog 11 #[.slice (some ⟨N, 0, none⟩) 1 1] (w.alloc (.cells #[.slice A1 n1 c1] 22)) fun e w' => e = .returned (.bool (E.small [n1])) ∧ w.alloc (.cells #[.slice A1 n1 c1] 22) = w' := h ▸ small1_any A1 c1 n1 w h1

set_option maxRecDepth 10000 in
set_option maxHeartbeats 8000000 in
theorem applylaw_any (A1 : Option Addr) (c1 : Nat) (a : List Int) (A2 : Option Addr) (c2 : Nat) (xs : List (E.Es Int)) (w : World)
    (ha : Reads w w.heap.size 1 A1 a.length (E.ns a)) (hcap : a.length ≤ c1) (ya : a.length ≤ 17592186043904)
    (hx : E.Rd0 w w.heap.size A2 xs) (yx : xs.length ≤ maxLen) :
    Calls Try.prog 8 #[.slice A1 a.length c1, .slice A2 xs.length c2] w fun e w' => e = .returned (.bool true) ∧ Below w.heap.size w w' := by
  have SM : Hid (∀ (w' : World) (A : Option Addr) (n c N : Nat), n ≤ maxLen → w'.heap.size = N → Calls Try.prog 11 #[.slice (some ⟨N, 0, none⟩) 1 1] (w'.alloc (.cells #[.slice A n c] 22)) fun e w'' => e = .returned (.bool (E.small [n])) ∧ w'.alloc (.cells #[.slice A n c] 22) = w'') := Lib.hid (fun w' A n c N hn hN => small1_at A c n w' hn hN)
  have H1 := Lib.hid ha
  have HX := Lib.hid hx
  clear ha hx
  have hal : a.length ≤ maxLen := by simp only [maxLen]; omega
  unfold maxLen at yx
  have AW : Hid (∀ w2, Below w.heap.size w w2 → Calls Try.prog 12 #[] w2 fun e w' => e = .returned (.bool true) ∧ Below w.heap.size w w') := Lib.hid (fun w2 hb => (awake_any w2).mono (fun e w' ⟨h1, h2⟩ => ⟨h1, hb.trans (h2.mono hb.size)⟩))
  have hb2 : Below w.heap.size w (w.alloc (.cells #[.slice A1 a.length c1] 22)) := (Below.refl _ _).alloc (Nat.le_refl _) _
  go_enter Try.func8, Try.ntmps8
  go_wp2_with fail
  refine (SM.out _ _ _ _ _ hal rfl).mono ?_
  rintro e w2 ⟨rfl, rfl⟩
  generalize w.alloc _ = w2 at *
  cases hs : E.small [a.length]
  · go_wp2_with fail
    refine (AW.out _ hb2).mono ?_
    rintro e w3 ⟨rfl, hb3⟩
    go_wp2_with fail
    go_ret
    exact ⟨rfl, hb3⟩
  · have n1 := E.small1 hs
    clear hs
    by_cases h10 : 10 < xs.length
    · have h10' : (10 : Int) < (xs.length : Int) := by omega
      go_wp2_with fail
      refine (AW.out _ hb2).mono ?_
      rintro e w3 ⟨rfl, hb3⟩
      go_wp2_with fail
      go_ret
      exact ⟨rfl, hb3⟩
    · go_wp2
      go_loopw [23] (fun vi wr => ∃ k : Nat, k ≤ xs.length ∧ vi = .int .i64 k ∧ Hid (∀ j (h : j < xs.length), j < k → xs[j].ed.ins.length ≤ 30) ∧ Below w.heap.size w wr) (fun vi _ => xs.length - (intOf vi).toNat)
      case atStart => exact ⟨0, Nat.zero_le _, rfl, Lib.hid (fun j _ h => absurd h (by omega)), hb2⟩
      case round =>
        clear hb2
        obtain ⟨k, hk, rfl, hprev, hb⟩ := hrel
        by_cases hlt : k < xs.length
        · obtain ⟨bb, off, rfl, hlo, hc⟩ := E.edD (HX.out.row.below hb (Nat.le_refl _)) (by omega)
          obtain ⟨x0, x1, x2⟩ := hc k hlt
          obtain ⟨Ai, ci, hsl', -, li⟩ := HX.out.ins xs[k] (List.getElem_mem hlt)
          have hnext : Hid (xs[k].ed.ins.length ≤ 30 → ∀ j (h : j < xs.length), j < k + 1 → xs[j].ed.ins.length ≤ 30) := Lib.hid (fun h30 j h hj => by
            by_cases e : j = k
            · subst e; exact h30
            · exact hprev.out j h (by omega))
          have hbl : bb < wr.heap.size := by have := hb.size; omega
          have q1 : (k : Int) < (xs.length : Int) := by omega
          clear hc hprev
          generalize xs[k] = x at *
          obtain ⟨⟨xa, xd, xi⟩, xs'⟩ := x
          dsimp only at *
          subst hsl'
          have hb3 : Below w.heap.size w ((wr.alloc (.cells #[.int .i64 xa, .int .i64 xd, .slice Ai xi.length ci] 37)).alloc (.cells #[.slice Ai xi.length ci] 22)) := (hb.alloc hb.size _).alloc (by have := hb.size; simp; omega) _
          go_wp2_with fail
          refine (SM.out (wr.alloc (.cells #[.int .i64 xa, .int .i64 xd, .slice Ai xi.length ci] 37)) Ai xi.length ci _ li (by simp)).mono ?_
          rintro e w4 ⟨rfl, rfl⟩
          generalize hw4 : (wr.alloc (.cells #[.int .i64 xa, .int .i64 xd, .slice Ai xi.length ci] 37)).alloc (.cells #[.slice Ai xi.length ci] 22) = w4 at *
          clear hw4
          cases hsm : E.small [xi.length]
          · go_wp2_with fail
            refine (AW.out _ hb3).mono ?_
            rintro e w5 ⟨rfl, hb5⟩
            go_wp2_with fail
            go_ret
            exact ⟨rfl, hb5⟩
          · have h30 := E.small1 hsm
            have hp2 := Lib.hid (hnext.out h30)
            clear hsm hnext
            go_wp2
            go_roundw
            case rel => exact ⟨k + 1, hlt, by go_num, hp2, hb3⟩
            case measure => simp [intOf] <;> omega
        · obtain rfl : k = xs.length := by omega
          have HX30 : ∀ x ∈ xs, x.ed.ins.length ≤ 30 := fun x hx => by
            obtain ⟨j, hj, rfl⟩ := List.getElem_of_mem hx
            exact hprev.out j hj hj
          replace HX30 := Lib.hid HX30
          have rd := Lib.hid (HX.out.rd (fun x hx => by
            obtain ⟨j, hj, rfl⟩ := List.getElem_of_mem hx
            have := hprev.out j hj hj
            omega))
          clear hprev
          go_wp2_with fail
          refine (edits_out A2 c2 w.heap.size xs wr (rd.out.below hb (Nat.le_refl _)) hb.size (by omega)).mono ?_
          rintro e w3 ⟨A3, c3, es, rfl, r3, e3, b3⟩
          have hb3 := hb.trans (b3.mono hb.size)
          have hel : es.length = xs.length := by have := congrArg List.length e3; simpa using this
          have AP := apply_any A1 A3 c1 c3 w3.heap.size a es w3 ((H1.out.below hb3 (Nat.le_refl _)).more hb3.size) hcap r3 (Nat.le_refl _) (by omega) (by omega)
          rw [e3] at AP
          replace AP := Lib.hid AP
          clear r3 e3
          have hel' := Lib.hid hel
          clear hel
          go_wp2_with fail
          refine AP.out.mono ?_
          clear AP
          rintro e w4 ⟨v, rfl, hown, b4⟩
          have hb4 := hb3.trans (b4.mono hb3.size)
          obtain ⟨A4, c4, rfl, r4⟩ := own_reads hown
          have R4 := Lib.hid r4
          clear hown r4
          have RA := Lib.hid (refapply_any A1 A2 c1 c2 w.heap.size a xs w4 (H1.out.below hb4 (Nat.le_refl _)) hcap (rd.out.below hb4 (Nat.le_refl _)) hb4.size (by omega) (by omega))
          have HLEN : Hid ((E.got (E.app a 0 (xs.map (·.ed)))).length ≤ 1000000) := Lib.hid (by
            cases hr : E.app a 0 (xs.map (·.ed)) with
            | error u => simp [E.got]
            | ok r =>
              obtain ⟨kk, h1, h2, h3, h4⟩ := E.app_kept a _ 0 r (Nat.zero_le _) hr
              have hk1 := h1.length_le
              have hs : ∀ l : List (E.Es Int), (∀ x ∈ l, x.ed.ins.length ≤ 30) → ((l.map (·.ed)).map fun x => (x.ins.length : Int)).sum ≤ 30 * l.length := by
                intro l
                induction l with
                | nil => simp
                | cons x l ih =>
                  intro h
                  have := ih (fun y hy => h y (by simp [hy]))
                  have := h x (by simp)
                  simp at *
                  omega
              have := hs xs HX30.out
              simp at hk1
              simp only [E.got]
              omega)
          generalize E.app a 0 (xs.map (·.ed)) = rr at *
          generalize hcd : E.code rr = cd at *
          generalize E.got rr = gg at *
          clear hcd
          go_wp2_with fail
          refine RA.out.mono ?_
          clear RA
          rintro e w5 ⟨v5, rfl, hown5, b5⟩
          have hb5 := hb4.trans (b5.mono hb4.size)
          obtain ⟨A5, c5, rfl, r5⟩ := own_reads hown5
          have SI := sameints_any A4 A5 c4 c5 w5.heap.size gg gg w5 ((R4.out.below b5 (Nat.le_refl _)).more b5.size) r5 HLEN.out HLEN.out
          rw [decide_eq_true rfl] at SI
          replace SI := Lib.hid SI
          clear hown5 r5
          go_wp2_with fail
          refine SI.out.mono ?_
          rintro e w6 ⟨rfl, n6, rfl⟩
          have hb6 := below_drewN hb5 n6
          generalize w5.drewN n6 = w6 at *
          go_wp2_with fail
          refine (AW.out _ hb6).mono ?_
          rintro e w7 ⟨rfl, hb7⟩
          go_wp2_with fail
          go_ret
          exact ⟨rfl, hb7⟩
end Go.Proofs.Ytpigimmgadcogaa
