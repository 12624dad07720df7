/-
  The statements of layer 16: EditscriptMinimal. By an AI agent.
-/
import Derived.Test.YtpigimmgadcogaaWt
namespace Go.Proofs.Ytpigimmgadcogaa
open Go.RowKit

theorem E.app_len {a r : List Int} {l : List (E.Ed Int)} (h : E.app a 0 l = .ok r) : (r.length : Int) ≤ a.length + E.weight l := by
  obtain ⟨k, h1, h2, h3, h4⟩ := E.app_kept a l 0 r (Nat.zero_le _) h
  have hk := h1.length_le
  simp at hk
  rw [E.weight_sums]
  omega

set_option maxRecDepth 10000 in
set_option maxHeartbeats 8000000 in
theorem minimal_any (A1 : Option Addr) (c1 : Nat) (a : List Int) (A2 : Option Addr) (c2 : Nat) (xs : List (E.Es Int)) (w : World)
    (ha : Reads w w.heap.size 1 A1 a.length (E.ns a)) (hcap : a.length ≤ c1) (ya : a.length ≤ 17592186043904)
    (hx : E.Rd0 w w.heap.size A2 xs) (yx : xs.length ≤ maxLen) :
    Calls Try.prog 10 #[.slice A1 a.length c1, .slice A2 xs.length c2] w fun e w' => e = .returned (.bool true) ∧ Below w.heap.size w w' := by
  have SM : Hid (∀ w' : World, Calls Try.prog 11 #[.slice (some ⟨w'.heap.size, 0, none⟩) 1 1] (w'.alloc (.cells #[.slice A1 a.length c1] 22)) fun e w'' => e = .returned (.bool (E.small [a.length])) ∧ w'.alloc (.cells #[.slice A1 a.length c1] 22) = w'') := Lib.hid (fun w' => small1_any A1 c1 a.length w' (by simp only [maxLen]; omega))
  have WT := Lib.hid (weight_any A2 c2 w.heap.size xs w hx yx)
  have H1 := Lib.hid ha
  have HX := Lib.hid hx
  have HRW := Lib.hid (E.rw_weight (xs.map (·.ed)) 0)
  clear ha hx
  unfold maxLen at yx
  go_enter Try.func10, Try.ntmps10
  go_wp2_with fail
  refine WT.out.mono ?_
  rintro e w1 ⟨rfl, n, rfl⟩
  have hb1 : Below w.heap.size w (w.drewN n) := below_drewN (Below.refl _ _) n
  generalize hw1 : w.drewN n = w1 at *
  clear hw1
  generalize hm : E.rw 0 (xs.map (·.ed)) = m at *
  have hb2 : Below w.heap.size w (w1.alloc (.cells #[.slice A1 a.length c1] 22)) := hb1.alloc hb1.size _
  have aw : ∀ w2, Below w.heap.size w w2 → Calls Try.prog 12 #[] w2 fun e w' => e = .returned (.bool true) ∧ Below w.heap.size w w' := fun w2 hb => (awake_any w2).mono (fun e w' ⟨h1, h2⟩ => ⟨h1, hb.trans (h2.mono hb.size)⟩)
  have AW := Lib.hid aw
  clear aw
  go_wp2_with fail
  refine (SM.out _).mono ?_
  rintro e w2 ⟨rfl, rfl⟩
  generalize w1.alloc _ = w2 at *
  clear hb1
  cases hs : E.small [a.length]
  · go_wp2_with fail
    refine (AW.out _ hb2).mono ?_
    rintro e w3 ⟨rfl, hb3⟩
    go_wp2_with fail
    go_ret
    exact ⟨rfl, hb3⟩
  · have n1 := E.small1 hs
    clear hs
    by_cases h10 : 10 < xs.length
    · have h10' : (10 : Int) < (xs.length : Int) := by omega
      go_wp2_with fail
      refine (AW.out _ hb2).mono ?_
      rintro e w3 ⟨rfl, hb3⟩
      go_wp2_with fail
      go_ret
      exact ⟨rfl, hb3⟩
    · by_cases hm0 : m < 0
      · go_wp2_with fail
        refine (AW.out _ hb2).mono ?_
        rintro e w3 ⟨rfl, hb3⟩
        go_wp2_with fail
        go_ret
        exact ⟨rfl, hb3⟩
      · by_cases hm6 : 60 < m
        · go_wp2_with fail
          refine (AW.out _ hb2).mono ?_
          rintro e w3 ⟨rfl, hb3⟩
          go_wp2_with fail
          go_ret
          exact ⟨rfl, hb3⟩
        · obtain ⟨hwt, hins⟩ := HRW.out (by omega)
          have rd := HX.out.rd (fun x hx => by have := hins x.ed (List.mem_map.2 ⟨x, hx, rfl⟩); omega)
          have HWT : Hid (E.weight (xs.map (·.ed)) = m) := Lib.hid (by omega)
          have RD := Lib.hid rd
          clear hwt hins rd HRW hm WT
          go_wp2_with fail
          refine (edits_out A2 c2 w.heap.size xs w2 (RD.out.below hb2 (Nat.le_refl _)) hb2.size (by omega)).mono ?_
          rintro e w3 ⟨A3, c3, es, rfl, r3, e3, b3⟩
          have hb3 := hb2.trans (b3.mono hb2.size)
          have hel : es.length = xs.length := by have := congrArg List.length e3; simpa using this
          have AP := apply_any A1 A3 c1 c3 w3.heap.size a es w3 ((H1.out.below hb3 (Nat.le_refl _)).more hb3.size) hcap r3 (Nat.le_refl _) (by omega) (by omega)
          rw [e3] at AP
          replace AP := Lib.hid AP
          clear r3 e3
          have hel' := Lib.hid hel
          clear hel
          go_wp2_with fail
          refine AP.out.mono ?_
          clear AP
          rintro e w4 ⟨v, rfl, hown, b4⟩
          have hb4 := hb3.trans (b4.mono hb3.size)
          cases hr : E.app a 0 (xs.map (·.ed)) with
          | error u =>
            rw [hr] at hown
            obtain ⟨A4, c4, rfl, -⟩ := own_reads hown
            have hcode : (E.code (Except.error u : Except Bool (List Int)) != 0) = true := by cases u <;> rfl
            clear hown hr
            simp only [E.got, List.length_nil]
            generalize E.code (Except.error u : Except Bool (List Int)) = cd at *
            go_wp2_with fail
            refine (AW.out _ hb4).mono ?_
            rintro e w5 ⟨rfl, hb5⟩
            go_wp2_with fail
            go_ret
            exact ⟨rfl, hb5⟩
          | ok r =>
            rw [hr] at hown
            obtain ⟨A4, c4, rfl, r4⟩ := own_reads hown
            have hlen := E.app_len hr
            have hmin := E.app_min hr
            rw [HWT.out] at hlen hmin
            have hle : decide ((E.dist a r : Int) ≤ m) = true := decide_eq_true hmin
            have R4 := Lib.hid r4
            clear hown hr r4
            simp only [E.got, E.code] at R4 ⊢
            have DD := Lib.hid (dist_any A1 A4 c1 c4 w4.heap.size a r w4 ((H1.out.below hb4 (Nat.le_refl _)).more hb4.size) R4.out (Nat.le_refl _) (by omega) (by omega))
            go_wp2_with fail
            refine DD.out.mono ?_
            rintro e w5 ⟨rfl, b5⟩
            have hb5 := hb4.trans (b5.mono hb4.size)
            clear DD R4 hlen
            generalize (E.dist a r : Int) = z at *
            go_wp2_with fail
            refine (AW.out _ hb5).mono ?_
            rintro e w6 ⟨rfl, hb6⟩
            go_wp2_with fail
            go_ret
            exact ⟨rfl, hb6⟩
end Go.Proofs.Ytpigimmgadcogaa
