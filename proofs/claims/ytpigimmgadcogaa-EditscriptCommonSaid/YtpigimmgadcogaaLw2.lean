/-
  The statements of layer 16: EditscriptCommon. By an AI agent.
-/
import Derived.Test.YtpigimmgadcogaaLw1
namespace Go.Proofs.Ytpigimmgadcogaa
open Go.RowKit

namespace E
variable {α : Type} [DecidableEq α]
theorem scan_nil (l : List α) : scan [] l = 0 := by cases l <;> rfl
theorem scan_end (c : List α) : scan c [] = 0 := by cases c <;> rfl
theorem scan_hit {c l : List α} {k i : Nat} (hk : k < c.length) (hi : i < l.length) (h : c[k] = l[i]) : scan (c.drop k) (l.drop i) = scan (c.drop (k + 1)) (l.drop (i + 1)) + 1 := by
  rw [List.drop_eq_getElem_cons hk, List.drop_eq_getElem_cons hi]
  simp [scan, h]
theorem scan_miss {c l : List α} {k i : Nat} (hk : k < c.length) (hi : i < l.length) (h : c[k] ≠ l[i]) : scan (c.drop k) (l.drop i) = scan (c.drop k) (l.drop (i + 1)) := by
  conv => lhs; rw [List.drop_eq_getElem_cons hk, List.drop_eq_getElem_cons hi]
  rw [List.drop_eq_getElem_cons hk]
  simp [scan, h]
end E

set_option maxRecDepth 10000 in
set_option maxHeartbeats 8000000 in
theorem comlaw_any (A1 : Option Addr) (c1 : Nat) (a : List Int) (A2 : Option Addr) (c2 : Nat) (b : List Int) (w : World)
    (ha : Reads w w.heap.size 1 A1 a.length (E.ns a)) (_ : ∀ z ∈ a, (Lit.int .i64 z).wf = true) (ya : a.length ≤ 17592186043904)
    (hb : Reads w w.heap.size 1 A2 b.length (E.ns b)) (_ : ∀ z ∈ b, (Lit.int .i64 z).wf = true) (yb : b.length ≤ 17592186043904) :
    Calls Try.prog 5 #[.slice A1 a.length c1, .slice A2 b.length c2] w fun e w' => e = .returned (.bool true) ∧ Below w.heap.size w w' := by
  have SM := Lib.hid (small2_any A1 A2 c1 c2 a.length b.length w (by simp only [maxLen]; omega) (by simp only [maxLen]; omega))
  have hb0 : Below w.heap.size w (w.alloc (.cells #[.slice A1 a.length c1, .slice A2 b.length c2] 22)) := (Below.refl _ _).alloc (Nat.le_refl _) _
  cases hs : E.small [a.length, b.length]
  · rw [hs] at SM
    clear hs ha hb
    go_enter Try.func5, Try.ntmps5
    go_wp2_with fail
    refine SM.out.mono ?_
    rintro e w1 ⟨rfl, rfl⟩
    go_wp2_with fail
    refine (awake_any _).mono ?_
    rintro e w2 ⟨rfl, b2⟩
    go_wp2_with fail
    go_ret
    exact ⟨rfl, hb0.trans (b2.mono hb0.size)⟩
  · obtain ⟨n1, n2⟩ := E.small2 hs
    rw [hs] at SM
    have CM : Hid (∀ w', Below w.heap.size w w' → Calls Try.prog 20 #[.slice A1 a.length c1, .slice A2 b.length c2] w' fun e W' => ∃ A c, e = .returned (.slice A (E.common a b).length c) ∧ Reads W' W'.heap.size 1 A (E.common a b).length (E.ns (E.common a b)) ∧ Below w'.heap.size w' W') := Lib.hid (fun w' hbl =>
      common_any A1 A2 c1 c2 w.heap.size a b w' (ha.below hbl (Nat.le_refl _)) (hb.below hbl (Nat.le_refl _)) hbl.size (by omega) (by omega))
    have D : Hid (∀ w', Below w.heap.size w w' → Calls Try.prog 13 #[.slice A1 a.length c1, .slice A2 b.length c2] w' fun e w'' => e = .returned (.int .i64 (E.dist a b)) ∧ Below w'.heap.size w' w'') := Lib.hid (fun w' hbl =>
      dist_any A1 A2 c1 c2 w.heap.size a b w' (ha.below hbl (Nat.le_refl _)) (hb.below hbl (Nat.le_refl _)) hbl.size (by omega) (by omega))
    have H1 := Lib.hid ha
    have H2 := Lib.hid hb
    obtain ⟨cs1, cs2, cs3⟩ := E.common_spec a b
    have DI := Lib.hid (E.dist_int a b)
    rw [← cs3] at DI
    have SA := Lib.hid (E.scan_sub cs1)
    have SB := Lib.hid (E.scan_sub cs2)
    have SC : Hid ((E.common a (E.common a b)).length = (E.common a b).length) := Lib.hid (by rw [(E.common_spec a (E.common a b)).2.2, E.lcs_sub cs1])
    have hcl : (E.common a b).length ≤ 30 := by rw [cs3]; have := E.lcs_le_left a b; omega
    have hdl : 2 * (E.common a b).length ≤ a.length + b.length := by rw [cs3]; have := E.lcs_le_left a b; have := E.lcs_le_right a b; omega
    clear hs ha hb cs1 cs2 cs3
    generalize E.common a b = c at *
    go_enter Try.func5, Try.ntmps5
    go_wp2_with fail
    refine SM.out.mono ?_
    rintro e w1 ⟨rfl, rfl⟩
    generalize w.alloc _ = w1 at *
    go_wp2_with fail
    refine (CM.out _ hb0).mono ?_
    rintro e w2 ⟨A3, c3, rfl, r3, b2⟩
    have hb2 := hb0.trans (b2.mono hb0.size)
    have k0 : (w2.alloc (.cells #[.slice A1 a.length c1, .slice A2 b.length c2] 22)).cell? ⟨w2.heap.size, 0, none⟩ = some (.slice A1 a.length c1) := by simp
    have k1 : (w2.alloc (.cells #[.slice A1 a.length c1, .slice A2 b.length c2] 22)).cell? ⟨w2.heap.size, 1, none⟩ = some (.slice A2 b.length c2) := by simp
    have hb3 : Below w2.heap.size w2 (w2.alloc (.cells #[.slice A1 a.length c1, .slice A2 b.length c2] 22)) := (Below.refl _ _).alloc (Nat.le_refl _) _
    have hb4 := hb2.trans (hb3.mono hb2.size)
    have RC := Lib.hid (r3.below hb3 (Nat.le_refl _))
    have RA := Lib.hid (H1.out.below hb4 (Nat.le_refl _))
    have RB := Lib.hid (H2.out.below hb4 (Nat.le_refl _))
    have hs23 := hb3.size
    clear r3 hb3
    go_wp2
    generalize w2.alloc _ = w3 at *
    go_loop [24] (fun vi => ∃ t : Nat, t ≤ 2 ∧ vi = .int .i64 t) (fun vi => 2 - (intOf vi).toNat)
    case atStart => exact ⟨0, by decide, rfl⟩
    case round =>
      obtain ⟨t, ht, rfl⟩ := hrel
      obtain rfl | rfl | rfl : t = 0 ∨ t = 1 ∨ t = 2 := by omega
      · -- the first list
        go_wp2
        go_loop [8, 30] (fun vk vi => ∃ k i : Nat, vk = .int .i64 k ∧ vi = .int .i64 i ∧ k ≤ c.length ∧ i ≤ a.length ∧ Hid (E.scan c a = k + E.scan (c.drop k) (a.drop i))) (fun _ vi => a.length - (intOf vi).toNat)
        case atStart => exact ⟨0, 0, rfl, rfl, Nat.zero_le _, Nat.zero_le _, Lib.hid (by simp)⟩
        case round =>
          obtain ⟨k, i, rfl, rfl, hk, hi, hsc⟩ := hrel
          by_cases hlt : i < a.length
          · obtain ⟨bl, ol, rfl, hlb, hlc⟩ := (RA.out).num (by omega)
            have x0 := hlc i hlt
            have q1 : (i : Int) < (a.length : Int) := by omega
            have q0 : (0 : Int) ≤ (i : Int) := by omega
            clear hlc
            by_cases hkc : k < c.length
            · obtain ⟨bc, oc, rfl, hcb, hcc⟩ := (RC.out).num (by omega)
              have y0 := hcc k hkc
              have q2 : (k : Int) < (c.length : Int) := by omega
              have q3 : (0 : Int) ≤ (k : Int) := by omega
              clear hcc
              by_cases he : c[k] = a[i]
              · have hb : (c[k] == a[i]) = true := beq_iff_eq.2 he
                have hs2 : Hid (E.scan c a = (k + 1) + E.scan (c.drop (k + 1)) (a.drop (i + 1))) := Lib.hid (by rw [hsc.out, E.scan_hit hkc hlt he]; omega)
                clear hsc he
                generalize c[k] = y at *
                generalize a[i] = x at *
                go_wp2
                go_round
                case rel => exact ⟨k + 1, i + 1, by go_num, by go_num, by omega, by omega, hs2⟩
                case measure => simp [intOf] <;> omega
              · have hb : (c[k] == a[i]) = false := beq_eq_false_iff_ne.2 he
                have hs2 : Hid (E.scan c a = k + E.scan (c.drop k) (a.drop (i + 1))) := Lib.hid (by rw [hsc.out, E.scan_miss hkc hlt he])
                clear hsc he
                generalize c[k] = y at *
                generalize a[i] = x at *
                go_wp2
                go_round
                case rel => exact ⟨k, i + 1, rfl, by go_num, by omega, by omega, hs2⟩
                case measure => simp [intOf] <;> omega
            · obtain rfl : k = c.length := by omega
              have hs2 : Hid (E.scan c a = c.length + E.scan (c.drop c.length) (a.drop (i + 1))) := Lib.hid (by rw [hsc.out, List.drop_length, E.scan_nil, E.scan_nil])
              clear hsc
              generalize a[i] = x at *
              go_wp2
              go_round
              case rel => exact ⟨c.length, i + 1, rfl, by go_num, by omega, by omega, hs2⟩
              case measure => simp [intOf] <;> omega
          · obtain rfl : i = a.length := by omega
            have hkc : k = c.length := by have := hsc.out; rw [List.drop_length, E.scan_end, SA.out] at this; omega
            subst hkc
            go_wp2
            go_round
            case rel => exact ⟨1, by decide, rfl⟩
            case measure => simp [intOf] <;> omega
      · -- the second list
        go_wp2
        go_loop [8, 30] (fun vk vi => ∃ k i : Nat, vk = .int .i64 k ∧ vi = .int .i64 i ∧ k ≤ c.length ∧ i ≤ b.length ∧ Hid (E.scan c b = k + E.scan (c.drop k) (b.drop i))) (fun _ vi => b.length - (intOf vi).toNat)
        case atStart => exact ⟨0, 0, rfl, rfl, Nat.zero_le _, Nat.zero_le _, Lib.hid (by simp)⟩
        case round =>
          obtain ⟨k, i, rfl, rfl, hk, hi, hsc⟩ := hrel
          by_cases hlt : i < b.length
          · obtain ⟨bl, ol, rfl, hlb, hlc⟩ := (RB.out).num (by omega)
            have x0 := hlc i hlt
            have q1 : (i : Int) < (b.length : Int) := by omega
            have q0 : (0 : Int) ≤ (i : Int) := by omega
            clear hlc
            by_cases hkc : k < c.length
            · obtain ⟨bc, oc, rfl, hcb, hcc⟩ := (RC.out).num (by omega)
              have y0 := hcc k hkc
              have q2 : (k : Int) < (c.length : Int) := by omega
              have q3 : (0 : Int) ≤ (k : Int) := by omega
              clear hcc
              by_cases he : c[k] = b[i]
              · have hb : (c[k] == b[i]) = true := beq_iff_eq.2 he
                have hs2 : Hid (E.scan c b = (k + 1) + E.scan (c.drop (k + 1)) (b.drop (i + 1))) := Lib.hid (by rw [hsc.out, E.scan_hit hkc hlt he]; omega)
                clear hsc he
                generalize c[k] = y at *
                generalize b[i] = x at *
                go_wp2
                go_round
                case rel => exact ⟨k + 1, i + 1, by go_num, by go_num, by omega, by omega, hs2⟩
                case measure => simp [intOf] <;> omega
              · have hb : (c[k] == b[i]) = false := beq_eq_false_iff_ne.2 he
                have hs2 : Hid (E.scan c b = k + E.scan (c.drop k) (b.drop (i + 1))) := Lib.hid (by rw [hsc.out, E.scan_miss hkc hlt he])
                clear hsc he
                generalize c[k] = y at *
                generalize b[i] = x at *
                go_wp2
                go_round
                case rel => exact ⟨k, i + 1, rfl, by go_num, by omega, by omega, hs2⟩
                case measure => simp [intOf] <;> omega
            · obtain rfl : k = c.length := by omega
              have hs2 : Hid (E.scan c b = c.length + E.scan (c.drop c.length) (b.drop (i + 1))) := Lib.hid (by rw [hsc.out, List.drop_length, E.scan_nil, E.scan_nil])
              clear hsc
              generalize b[i] = x at *
              go_wp2
              go_round
              case rel => exact ⟨c.length, i + 1, rfl, by go_num, by omega, by omega, hs2⟩
              case measure => simp [intOf] <;> omega
          · obtain rfl : i = b.length := by omega
            have hkc : k = c.length := by have := hsc.out; rw [List.drop_length, E.scan_end, SB.out] at this; omega
            subst hkc
            go_wp2
            go_round
            case rel => exact ⟨2, by decide, rfl⟩
            case measure => simp [intOf] <;> omega
      · have u1 : IntKind.i64.wrap ((a.length : Int) + (b.length : Int)) = (a.length : Int) + (b.length : Int) := by simp [IntKind.wrap, IntKind.bits, IntKind.signed]; omega
        have u2 : IntKind.i64.wrap (2 * (c.length : Int)) = 2 * (c.length : Int) := by simp [IntKind.wrap, IntKind.bits, IntKind.signed]; omega
        have u3 : IntKind.i64.wrap ((a.length : Int) + (b.length : Int) - 2 * (c.length : Int)) = (a.length : Int) + (b.length : Int) - 2 * (c.length : Int) := by simp [IntKind.wrap, IntKind.bits, IntKind.signed]; omega
        have u4 : ((E.dist a b : Int) == (a.length : Int) + (b.length : Int) - 2 * (c.length : Int)) = true := beq_iff_eq.2 DI.out
        go_wp2_with fail
        refine (D.out _ hb4).mono ?_
        rintro e w4 ⟨rfl, b4⟩
        have hb5 := hb4.trans (b4.mono hb4.size)
        have C2 := common_any A1 A3 c1 c3 w3.heap.size a c w4 ((RA.out.more hb4.size).below b4 (Nat.le_refl _)) ((RC.out.more hs23).below b4 (Nat.le_refl _)) b4.size (by omega) (by omega)
        rw [SC.out] at C2
        have C2 := Lib.hid C2
        go_wp2_with fail
        refine C2.out.mono ?_
        rintro e w5 ⟨A5, c5, rfl, -, b5⟩
        have hb6 := hb5.trans (b5.mono hb5.size)
        go_wp2_with fail
        refine (awake_any _).mono ?_
        rintro e w6 ⟨rfl, b6⟩
        go_wp2_with fail
        go_ret
        exact ⟨rfl, hb6.trans (b6.mono hb6.size)⟩
end Go.Proofs.Ytpigimmgadcogaa
