/-
  The walks of layer 29: why costs are no table (check). By an AI agent.
-/
import Derived.Test.YtoemhphgnpedmaaLow
namespace Go.Proofs.Ytoemhphgnpedmaa
open Go.RowKit

/-- Why a list of rows is no table of costs. -/
def C.chkV (m : List (List Int)) : Int := if 40 < m.length then 5 else if m.any (fun l => l.length != m.length) then 1 else if m.any (fun l => l.any fun x => decide (x < 0 ∨ 1000000 < x)) then 2 else 0
theorem C.chk_sq {m : List (List Int)} (h : C.chkV m = 0) : C.Sq m := by
  unfold C.chkV at h
  split at h
  · cases h
  · rename_i h1
    split at h
    · cases h
    · rename_i h2
      split at h
      · cases h
      · rename_i h3
        simp only [List.any_eq_true, not_exists, not_and, bne_iff_ne, ne_eq, Decidable.not_not, decide_eq_true_eq] at h2 h3
        refine ⟨by omega, h2, fun l hl x hx => ?_⟩
        have := h3 l hl x hx
        unfold A.M
        omega
theorem C.chk_of_sq {m : List (List Int)} (h : C.Sq m) : C.chkV m = 0 := by
  unfold C.chkV
  rw [if_neg (by have := h.1; omega), if_neg, if_neg]
  · simp only [List.any_eq_true, not_exists, not_and, decide_eq_true_eq]
    intro l hl x hx
    have := h.2.2 l hl x hx
    unfold A.M at this
    omega
  · simp only [List.any_eq_true, not_exists, not_and, bne_iff_ne, ne_eq, Decidable.not_not]
    exact h.2.1

theorem any_first {α : Type} {P : α → Bool} {l : List α} {k : Nat} (hk : k < l.length) (h : P l[k] = true) : l.any P = true := List.any_eq_true.2 ⟨_, List.getElem_mem hk, h⟩
theorem any_none {α : Type} {P : α → Bool} {l : List α} (h : ∀ j (hj : j < l.length), P l[j] = false) : l.any P = false := by
  rw [List.any_eq_false]
  intro x hx
  obtain ⟨j, hj, rfl⟩ := List.getElem_of_mem hx
  rw [h j hj]; decide

set_option maxHeartbeats 2000000 in
theorem index30 (B : Nat) (A : Option Addr) (c : Nat) (rs : List (Option Addr × Nat × List Int)) (P : Option Addr × Nat × List Int → Bool) (caps : Array Value) (w : World) (h : Reads w B 1 A rs.length (rs.map C.slv)) (hn : rs.length ≤ maxLen) (hcall : ∀ r ∈ rs, Calls Try.prog 42 (#[(.slice r.1 r.2.2.length r.2.1)] ++ caps) w fun e w' => e = .returned (.bool (P r)) ∧ w = w') :
    Calls Try.prog 49 #[.slice A rs.length c, .func (.func 42) #[] caps] w fun e w' => (∃ z, e = .returned (.int .i64 z) ∧ decide (0 ≤ z) = rs.any P) ∧ w = w' := by
  have HC := Lib.hid hcall
  have HR := Lib.hid h
  unfold maxLen at hn
  clear h hcall
  go_enter Try.func49, Try.ntmps49
  go_wp2
  go_loop [8] (fun v8 => ∃ k : Nat, v8 = .int .i64 k ∧ k ≤ rs.length ∧ Hid (∀ j (_ : j < k) (hj : j < rs.length), P rs[j] = false)) (fun v8 => rs.length - (intOf v8).toNat)
  case atStart => exact ⟨0, rfl, Nat.zero_le _, Lib.hid (fun j h => absurd h (by omega))⟩
  case round =>
    obtain ⟨k, rfl, hk, hpre⟩ := hrel
    by_cases hlt : k < rs.length
    · have q1 : (0 : Int) ≤ (k : Int) := by omega
      have q2 : (k : Int) < (rs.length : Int) := by omega
      obtain ⟨b, off, hA, _, hc⟩ := HR.out.flat (by omega) (by decide)
      subst hA
      have x0 := hc k _ (show (rs.map C.slv)[k]? = some (.slice rs[k].1 rs[k].2.2.length rs[k].2.1) by simp [hlt, C.slv])
      have hcl := Lib.hid (HC.out rs[k] (List.getElem_mem hlt))
      cases hp : P rs[k]
      · have hpre2 : Hid (∀ j (_ : j < k + 1) (hj : j < rs.length), P rs[j] = false) := Lib.hid (fun j h hj => by
          by_cases e : j = k
          · subst e; exact hp
          · exact hpre.out j (by omega) hj)
        rw [hp] at hcl
        clear hp hpre hc
        generalize rs[k] = r at *
        go_wp2_with fail
        refine hcl.out.mono ?_
        rintro e' w' ⟨rfl, rfl⟩
        go_wp2
        go_round
        case rel => exact ⟨k + 1, by go_num, hlt, hpre2⟩
        case measure => simp [intOf] <;> omega
      · have HE := Lib.hid (any_first hlt hp)
        rw [hp] at hcl
        clear hp hpre hc
        generalize rs[k] = r at *
        go_wp2_with fail
        refine hcl.out.mono ?_
        rintro e' w' ⟨rfl, rfl⟩
        go_wp2_with fail
        go_ret
        exact ⟨⟨k, rfl, by rw [HE.out]; simp⟩, rfl⟩
    · obtain rfl : k = rs.length := by omega
      have HE := Lib.hid (any_none (fun j hj => hpre.out j hj hj))
      go_wp2
      go_ret
      exact ⟨⟨-1, rfl, by rw [HE.out]; rfl⟩, rfl⟩
set_option maxHeartbeats 2000000 in
theorem contains23 (B : Nat) (A : Option Addr) (c : Nat) (rs : List (Option Addr × Nat × List Int)) (P : Option Addr × Nat × List Int → Bool) (caps : Array Value) (w : World) (h : Reads w B 1 A rs.length (rs.map C.slv)) (hn : rs.length ≤ maxLen) (hcall : ∀ r ∈ rs, Calls Try.prog 42 (#[(.slice r.1 r.2.2.length r.2.1)] ++ caps) w fun e w' => e = .returned (.bool (P r)) ∧ w = w') :
    Calls Try.prog 41 #[.slice A rs.length c, .func (.func 42) #[] caps] w fun e w' => e = .returned (.bool (rs.any P)) ∧ w = w' := by
  have IX := Lib.hid (index30 B A c rs P caps w h hn hcall)
  clear h hcall
  go_enter Try.func41, Try.ntmps41
  go_wp2_with fail
  refine IX.out.mono ?_
  rintro e' w' ⟨⟨z, rfl, hz⟩, rfl⟩
  have HZ := Lib.hid hz
  clear hz
  go_wp2_with fail
  go_ret
  exact ⟨ret_bool HZ.out, rfl⟩

set_option maxHeartbeats 2000000 in
theorem index31 (B : Nat) (A : Option Addr) (c : Nat) (rs : List Int) (P : Int → Bool) (caps : Array Value) (w : World) (h : Reads w B 1 A rs.length (C.ns rs)) (hn : rs.length ≤ maxLen) (hcall : ∀ r ∈ rs, Calls Try.prog 44 (#[(.int .i64 r)] ++ caps) w fun e w' => e = .returned (.bool (P r)) ∧ w = w') :
    Calls Try.prog 50 #[.slice A rs.length c, .func (.func 44) #[] caps] w fun e w' => (∃ z, e = .returned (.int .i64 z) ∧ decide (0 ≤ z) = rs.any P) ∧ w = w' := by
  have HC := Lib.hid hcall
  have HR := Lib.hid h
  unfold maxLen at hn
  clear h hcall
  go_enter Try.func50, Try.ntmps50
  go_wp2
  go_loop [8] (fun v8 => ∃ k : Nat, v8 = .int .i64 k ∧ k ≤ rs.length ∧ Hid (∀ j (_ : j < k) (hj : j < rs.length), P rs[j] = false)) (fun v8 => rs.length - (intOf v8).toNat)
  case atStart => exact ⟨0, rfl, Nat.zero_le _, Lib.hid (fun j h => absurd h (by omega))⟩
  case round =>
    obtain ⟨k, rfl, hk, hpre⟩ := hrel
    by_cases hlt : k < rs.length
    · have q1 : (0 : Int) ≤ (k : Int) := by omega
      have q2 : (k : Int) < (rs.length : Int) := by omega
      obtain ⟨b, off, hA, _, hc⟩ := HR.out.flat (by omega) (by decide)
      subst hA
      have x0 := hc k _ (show (C.ns rs)[k]? = some (.int .i64 rs[k]) by simp [hlt, C.ns])
      have hcl := Lib.hid (HC.out rs[k] (List.getElem_mem hlt))
      cases hp : P rs[k]
      · have hpre2 : Hid (∀ j (_ : j < k + 1) (hj : j < rs.length), P rs[j] = false) := Lib.hid (fun j h hj => by
          by_cases e : j = k
          · subst e; exact hp
          · exact hpre.out j (by omega) hj)
        rw [hp] at hcl
        clear hp hpre hc
        generalize rs[k] = r at *
        go_wp2_with fail
        refine hcl.out.mono ?_
        rintro e' w' ⟨rfl, rfl⟩
        go_wp2
        go_round
        case rel => exact ⟨k + 1, by go_num, hlt, hpre2⟩
        case measure => simp [intOf] <;> omega
      · have HE := Lib.hid (any_first hlt hp)
        rw [hp] at hcl
        clear hp hpre hc
        generalize rs[k] = r at *
        go_wp2_with fail
        refine hcl.out.mono ?_
        rintro e' w' ⟨rfl, rfl⟩
        go_wp2_with fail
        go_ret
        exact ⟨⟨k, rfl, by rw [HE.out]; simp⟩, rfl⟩
    · obtain rfl : k = rs.length := by omega
      have HE := Lib.hid (any_none (fun j hj => hpre.out j hj hj))
      go_wp2
      go_ret
      exact ⟨⟨-1, rfl, by rw [HE.out]; rfl⟩, rfl⟩
set_option maxHeartbeats 2000000 in
theorem contains25 (B : Nat) (A : Option Addr) (c : Nat) (rs : List Int) (P : Int → Bool) (caps : Array Value) (w : World) (h : Reads w B 1 A rs.length (C.ns rs)) (hn : rs.length ≤ maxLen) (hcall : ∀ r ∈ rs, Calls Try.prog 44 (#[(.int .i64 r)] ++ caps) w fun e w' => e = .returned (.bool (P r)) ∧ w = w') :
    Calls Try.prog 43 #[.slice A rs.length c, .func (.func 44) #[] caps] w fun e w' => e = .returned (.bool (rs.any P)) ∧ w = w' := by
  have IX := Lib.hid (index31 B A c rs P caps w h hn hcall)
  clear h hcall
  go_enter Try.func43, Try.ntmps43
  go_wp2_with fail
  refine IX.out.mono ?_
  rintro e' w' ⟨⟨z, rfl, hz⟩, rfl⟩
  have HZ := Lib.hid hz
  clear hz
  go_wp2_with fail
  go_ret
  exact ⟨ret_bool HZ.out, rfl⟩

set_option maxHeartbeats 2000000 in
theorem clos24 (bx : Nat) (A : Option Addr) (n c : Nat) (r : Option Addr × Nat × List Int) (w : World) (hx : w.cell? ⟨bx, 0, none⟩ = some (.slice A n c)) :
    Calls Try.prog 42 #[.slice r.1 r.2.2.length r.2.1, .pointer (some ⟨bx, 0, none⟩)] w fun e w' => e = .returned (.bool (r.2.2.length != n)) ∧ w = w' := by
  have HE : Hid (((r.2.2.length : Int) != (n : Int)) = (r.2.2.length != n)) := Lib.hid (by
    by_cases h : r.2.2.length = n
    · simp [h]
    · rw [bne_iff_ne.2 h, bne_iff_ne]; omega)
  generalize (r.2.2.length != n) = z at *
  generalize r.2.2.length = k at *
  go_enter Try.func42, Try.ntmps42
  go_wp2
  go_ret
  exact ⟨ret_bool HE.out, rfl⟩
set_option maxHeartbeats 2000000 in
theorem clos26 (x : Int) (w : World) : Calls Try.prog 44 #[.int .i64 x] w fun e w' => e = .returned (.bool (decide (x < 0 ∨ 1000000 < x))) ∧ w = w' := by
  by_cases h1 : x < 0
  · have HE : Hid (decide (x < 0 ∨ 1000000 < x) = true) := Lib.hid (decide_eq_true (.inl h1))
    go_enter Try.func44, Try.ntmps44
    go_wp2
    go_ret
    exact ⟨ret_bool HE.out.symm, rfl⟩
  · have HE : Hid (decide (x < 0 ∨ 1000000 < x) = decide (1000000 < x)) := Lib.hid (decide_eq_decide.2 ⟨fun h => h.resolve_left h1, .inr⟩)
    go_enter Try.func44, Try.ntmps44
    go_wp2
    go_ret
    exact ⟨ret_bool (by first | exact HE.out.symm | (simp; intro h; omega)), rfl⟩

set_option maxRecDepth 10000 in
set_option maxHeartbeats 4000000 in
theorem check_any (B : Nat) (A : Option Addr) (c : Nat) (rs : List (Option Addr × Nat × List Int)) (w : World) (h : C.Mx w B A rs) (hB : B ≤ w.heap.size) :
    Calls Try.prog 34 #[.slice A rs.length c] w fun e w' => e = .returned (.int .i64 (C.chkV (C.mt rs))) ∧ Below w.heap.size w w' := by
  have hl : (C.mt rs).length = rs.length := by simp [C.mt]
  have hb0 : Below w.heap.size w (w.alloc (.cells #[.slice A rs.length c] 45)) := (Below.refl _ w).alloc (Nat.le_refl _) _
  have hm := h.below hb0 hB
  have xb : (w.alloc (.cells #[.slice A rs.length c] 45)).cell? ⟨w.heap.size, 0, none⟩ = some (.slice A rs.length c) := by rw [World.cell?_alloc_new]; rfl
  have C1 := Lib.hid (contains23 B A c rs (fun r => r.2.2.length != rs.length) #[.pointer (some ⟨w.heap.size, 0, none⟩)] (w.alloc (.cells #[.slice A rs.length c] 45)) hm.row hm.len (fun r _ => clos24 w.heap.size A rs.length c r _ xb))
  have C2 : Hid (∀ r ∈ rs, Calls Try.prog 43 #[.slice r.1 r.2.2.length r.2.1, .func (.func 44) #[] #[]] (w.alloc (.cells #[.slice A rs.length c] 45)) fun e w' => e = .returned (.bool (r.2.2.any fun x => decide (x < 0 ∨ 1000000 < x))) ∧ (w.alloc (.cells #[.slice A rs.length c] 45)) = w') := Lib.hid (fun r hr =>
    contains25 B r.1 r.2.1 r.2.2 (fun x => decide (x < 0 ∨ 1000000 < x)) #[] _ (hm.each r hr).1 (hm.each r hr).2 (fun x _ => clos26 x _))
  have e1 : (C.mt rs).any (fun l => l.length != (C.mt rs).length) = rs.any (fun r => r.2.2.length != rs.length) := by rw [hl]; simp [C.mt, List.any_map, Function.comp_def]
  have e2 : (C.mt rs).any (fun l => l.any fun x => decide (x < 0 ∨ 1000000 < x)) = rs.any (fun r => r.2.2.any fun x => decide (x < 0 ∨ 1000000 < x)) := by simp only [C.mt, List.any_map, Function.comp_def]
  have HV : Hid (C.chkV (C.mt rs) = if 40 < rs.length then 5 else if rs.any (fun r => r.2.2.length != rs.length) then 1 else if rs.any (fun r => r.2.2.any fun x => decide (x < 0 ∨ 1000000 < x)) then 2 else 0) := Lib.hid (by unfold C.chkV; rw [e1, e2, hl])
  have HL := Lib.hid h.len
  have HMX := Lib.hid hm
  clear h hl e1 e2 hm xb
  by_cases h40 : 40 < rs.length
  · have hv : Hid (C.chkV (C.mt rs) = 5) := Lib.hid (by rw [HV.out, if_pos h40])
    go_enter Try.func34, Try.ntmps34
    go_wp2
    go_ret
    exact ⟨ret_int hv.out.symm, hb0⟩
  · have h40' : decide ((40 : Int) < (rs.length : Int)) = false := decide_eq_false (by omega)
    cases hp : rs.any (fun r => r.2.2.length != rs.length)
    · rw [hp] at C1
      have HP := Lib.hid hp
      clear hp
      go_enter Try.func34, Try.ntmps34
      go_wp2_with fail
      refine C1.out.mono ?_
      rintro e' w' ⟨rfl, rfl⟩
      go_wp2
      go_loop [13] (fun v13 => ∃ k : Nat, v13 = .int .i64 k ∧ k ≤ rs.length ∧ Hid (∀ j (_ : j < k) (hj : j < rs.length), (rs[j].2.2.any fun x => decide (x < 0 ∨ 1000000 < x)) = false)) (fun v13 => rs.length - (intOf v13).toNat)
      case atStart => exact ⟨0, rfl, Nat.zero_le _, Lib.hid (fun j h => absurd h (by omega))⟩
      case round =>
        obtain ⟨k, rfl, hk, hpre⟩ := hrel
        by_cases hlt : k < rs.length
        · have q1 : (0 : Int) ≤ (k : Int) := by omega
          have q2 : (k : Int) < (rs.length : Int) := by omega
          obtain ⟨b, off, rfl, _, hc⟩ := HMX.out.at_ (by omega)
          have x0 := hc k hlt
          have hcl := Lib.hid (C2.out rs[k] (List.getElem_mem hlt))
          cases hp : (rs[k].2.2.any fun x => decide (x < 0 ∨ 1000000 < x))
          · have hpre2 : Hid (∀ j (_ : j < k + 1) (hj : j < rs.length), (rs[j].2.2.any fun x => decide (x < 0 ∨ 1000000 < x)) = false) := Lib.hid (fun j h hj => by
              by_cases e : j = k
              · subst e; exact hp
              · exact hpre.out j (by omega) hj)
            rw [hp] at hcl
            clear hp hpre hc
            generalize rs[k] = r at *
            go_wp2_with fail
            refine hcl.out.mono ?_
            rintro e' w' ⟨rfl, rfl⟩
            go_wp2
            go_round
            case rel => exact ⟨k + 1, by go_num, hlt, hpre2⟩
            case measure => simp [intOf] <;> omega
          · have HE := Lib.hid (any_first (P := fun r : Option Addr × Nat × List Int => r.2.2.any fun x => decide (x < 0 ∨ 1000000 < x)) hlt hp)
            have hv : Hid (C.chkV (C.mt rs) = 2) := Lib.hid (by rw [HV.out, if_neg h40, HP.out, HE.out]; rfl)
            rw [hp] at hcl
            clear hp hpre hc
            generalize rs[k] = r at *
            go_wp2_with fail
            refine hcl.out.mono ?_
            rintro e' w' ⟨rfl, rfl⟩
            go_wp2_with fail
            go_ret
            exact ⟨ret_int hv.out.symm, hb0⟩
        · obtain rfl : k = rs.length := by omega
          have HE := Lib.hid (any_none (P := fun r : Option Addr × Nat × List Int => r.2.2.any fun x => decide (x < 0 ∨ 1000000 < x)) (fun j hj => hpre.out j hj hj))
          have hv : Hid (C.chkV (C.mt rs) = 0) := Lib.hid (by rw [HV.out, if_neg h40, HP.out, HE.out]; rfl)
          go_wp2
          go_ret
          exact ⟨ret_int hv.out.symm, hb0⟩
    · rw [hp] at C1
      have hv : Hid (C.chkV (C.mt rs) = 1) := Lib.hid (by rw [HV.out, if_neg h40, hp]; rfl)
      clear hp
      go_enter Try.func34, Try.ntmps34
      go_wp2_with fail
      refine C1.out.mono ?_
      rintro e' w' ⟨rfl, rfl⟩
      go_wp2_with fail
      go_ret
      exact ⟨ret_int hv.out.symm, hb0⟩
end Go.Proofs.Ytoemhphgnpedmaa
