/-
  The statements of layer 29: AssignmentOptimal. By an AI agent.
-/
import Derived.Lib.SliceRun
import Derived.Laws.CopyOwn
import Derived.Test.YtnekhlklflgodaaDul
namespace Go.Proofs.Ytnekhlklflgodaa
open Go.RowKit

theorem C.dsum_bound {u v : Nat → Int} {n : Nat} (hu : ∀ r, 1 ≤ r → r ≤ n → 0 ≤ u r ∧ u r ≤ 50000000) (hv : ∀ r, 1 ≤ r → r ≤ n → -50000000 ≤ v r ∧ v r ≤ 0) : ∀ i, i ≤ n → -(i * 50000000 : Int) ≤ C.dsum u v i ∧ C.dsum u v i ≤ i * 50000000 := by
  intro i
  induction i with
  | zero => intro _; simp [C.dsum]
  | succ i ih =>
    intro hi
    have h1 := ih (by omega)
    have h2 := hu (i + 1) (by omega) hi
    have h3 := hv (i + 1) (by omega) hi
    rw [C.dsum_succ]
    omega

set_option maxRecDepth 100000 in
set_option maxHeartbeats 16000000 in
theorem optlaw_any (Al : Option Addr) (cl : Nat) (l : List Int) (x : Int) (w : World) (hr : Reads w w.heap.size 1 Al l.length (C.ns l)) (_ : ∀ z ∈ l, (Lit.int .i64 z).wf = true) (hy : l.length ≤ 17592186043904) (hx0 : 0 ≤ x) (hx1 : x ≤ 255) :
    Calls Try.prog 9 #[.slice Al l.length cl, .int .u8 x] w fun e w' => e = .returned (.bool true) ∧ Below w.heap.size w w' := by
  obtain ⟨s, rfl⟩ : ∃ s : Nat, x = s := ⟨x.toNat, by omega⟩
  obtain ⟨n, hn⟩ : ∃ n : Nat, s % 13 = n := ⟨_, rfl⟩
  have hn12 : n < 13 := by omega
  have us : ((s : Int)) % 13 = (n : Int) := by omega
  have uc : IntKind.i64.wrap (s : Int) = (s : Int) := by simp [IntKind.wrap, IntKind.bits, IntKind.signed]; omega
  have HN := Lib.hid hn
  clear hn
  by_cases h150 : 150 < l.length
  · go_enter Try.func9, Try.ntmps9
    go_wp2_with fail
    refine (awake_any _).mono ?_
    rintro e' w9 ⟨rfl, b9⟩
    go_wp2_with fail
    go_ret
    exact ⟨rfl, b9⟩
  · have h150' : decide ((150 : Int) < (l.length : Int)) = false := decide_eq_false (by omega)
    have h150'' : decide (150 < l.length) = false := decide_eq_false h150
    have MA := Lib.hid (fun (w' : World) (hb : Below w.heap.size w w') => matrix_any w.heap.size Al cl l n 1000 w' (hr.below hb (Nat.le_refl _)) hb.size (by omega) (by omega) (by omega))
    have SQ := Lib.hid (C.mtx_sq l (mo := 1000) (by omega) (by omega) (n := n) (by omega))
    clear hr h150
    have MT := Lib.hid (MA.out w (Below.refl _ _))
    go_enter Try.func9, Try.ntmps9
    go_wp2_with fail
    refine MT.out.mono ?_
    rintro e' w1 ⟨v, rs, rfl, hom, hmt, b1⟩
    clear MT
    have hl : rs.length = n := by have := congrArg List.length hmt; simpa [C.mt, C.mtx_len] using this
    have hq : C.Sq (C.mt rs) := by rw [hmt]; exact SQ.out
    have hrr : ∀ r ∈ C.mt rs, r.length = n := fun r hr => by rw [hq.2.1 r hr]; simp [C.mt, hl]
    obtain ⟨Am, cm, rfl, hmx⟩ := hom.mxB (by omega) hl hrr
    have HL := Lib.hid hl
    have HQ := Lib.hid hq
    have HRR := Lib.hid hrr
    have HMX := Lib.hid hmx
    have B1 := Lib.hid b1
    have HMT := Lib.hid hmt
    have h01 := b1.size
    have MT := Lib.hid (MA.out w1 b1)
    clear hom hmt hmx hq b1 hl hrr
    try go_wp2_with fail
    clear MT MA SQ
    have S1 := Lib.hid (solve_sq n Am cm rs w1 HMX.out HQ.out HL.out)
    go_wp2_with fail
    refine S1.out.mono ?_
    rintro e' w3 ⟨Aa, ca, N, rfl, b3, hra, hba⟩
    have BST := Lib.hid hba
    have T1 := Lib.hid (total_sq n Am Aa cm ca rs N w3 ((HMX.out.below b3 (Nat.le_refl _)).more b3.size) HQ.out HL.out hra hba.pf)
    have B3 := Lib.hid b3
    clear S1 b3 hra hba
    go_wp2_with fail
    refine T1.out.mono ?_
    rintro e' w4 ⟨rfl, b4⟩
    have B4 := Lib.hid (B3.out.trans (b4.mono B3.out.size))
    have D1 := Lib.hid (duals_sq n Am cm rs w4 ((HMX.out.below B4.out (Nat.le_refl _)).more B4.out.size) HQ.out HL.out)
    clear T1 b4 B3
    go_wp2_with fail
    refine D1.out.mono ?_
    rintro e' w5 ⟨A1, c1, A2, c2, u, v, q, p, rfl, r1, r2, b5, hf, hp, hu, hv⟩
    have DS : Hid (A.tot n (C.cst (C.mt rs)) N = C.dsum u v n) := Lib.hid (by rw [A.duals_sum hf hp BST.out, C.dsum_all])
    have B5 := Lib.hid (B4.out.trans (b5.mono B4.out.size))
    have MX5 := Lib.hid ((HMX.out.below B5.out (Nat.le_refl _)))
    have DB := Lib.hid (C.dsum_bound hu hv)
    have FE := Lib.hid hf
    have HU := Lib.hid hu
    have HV := Lib.hid hv
    have R1 : Hid (Reads w5 w5.heap.size 1 A1 (C.dl n u).length (C.ns (C.dl n u))) := Lib.hid (by rw [C.dl_len]; exact r1)
    have R2 : Hid (Reads w5 w5.heap.size 1 A2 (C.dl n v).length (C.ns (C.dl n v))) := Lib.hid (by rw [C.dl_len]; exact r2)
    have BW := Lib.hid (B1.out.trans (B5.out.mono B1.out.size))
    have D0 : C.dsum u v 0 = 0 := rfl
    rw [DS.out]
    clear D1 r1 r2 b5 hf hp hu hv DS B5 B4 BST HMX HQ B1
    go_wp2_with fail
    go_loopw [14, 67] (fun v14 v67 wr => ∃ i m : Nat, v67 = .int .i64 i ∧ i ≤ n ∧ v14 = .int .i64 (C.dsum u v i) ∧ wr = w5.drewN m) (fun _ v67 _ => n - (intOf v67).toNat)
    case atStart => exact ⟨0, 0, rfl, by omega, rfl, rfl⟩
    case round =>
      obtain ⟨i, m, rfl, hi, rfl, rfl⟩ := hrel
      by_cases hlt : i < n
      · have hi1 : i < (C.dl n u).length := by rw [C.dl_len]; exact hlt
        have hi2 : i < (C.dl n v).length := by rw [C.dl_len]; exact hlt
        obtain ⟨b1, o1, rfl, _, h1⟩ := C.nums_at R1.out (by omega)
        obtain ⟨b2, o2, rfl, _, h2⟩ := C.nums_at R2.out (by omega)
        have x1 := h1 i hi1
        have x2 := h2 i hi2
        rw [C.dl_get] at x1 x2
        have hu := HU.out (i + 1) (by omega) (by omega)
        have hv := HV.out (i + 1) (by omega) (by omega)
        have hd := DB.out i (by omega)
        have hd2 := DB.out (i + 1) (by omega)
        rw [C.dsum_succ] at hd2
        have DN : Hid (C.dsum u v (i + 1) = C.dsum u v i + (u (i + 1) + v (i + 1))) := Lib.hid (C.dsum_succ u v i)
        have HUI := Lib.hid (fun j h1 h2 => FE.out (i + 1) j (by omega) (by omega) h1 h2)
        obtain ⟨ui, hui⟩ : ∃ ui, u (i + 1) = ui := ⟨_, rfl⟩
        obtain ⟨vi, hvi⟩ : ∃ vi, v (i + 1) = vi := ⟨_, rfl⟩
        obtain ⟨sm, hsm⟩ : ∃ sm, C.dsum u v i = sm := ⟨_, rfl⟩
        rw [hui] at HUI
        rw [hui, hvi, hsm] at DN
        rw [hui] at x1 hu
        rw [hvi] at x2 hv
        rw [hsm] at hd ⊢
        rw [hui, hvi, hsm] at hd2
        have q1 : (0 : Int) ≤ (i : Int) := by omega
        have q2 : (i : Int) < (n : Int) := by omega
        have t1 : decide (ui < -100000000) = false := decide_eq_false (by omega)
        have t2 : decide (100000000 < ui) = false := decide_eq_false (by omega)
        have t3 : decide (vi < -100000000) = false := decide_eq_false (by omega)
        have t4 : decide (100000000 < vi) = false := decide_eq_false (by omega)
        have u1 : IntKind.i64.wrap (ui + vi) = ui + vi := by simp [IntKind.wrap, IntKind.bits, IntKind.signed]; omega
        have u2 : IntKind.i64.wrap (sm + (ui + vi)) = sm + (ui + vi) := by simp [IntKind.wrap, IntKind.bits, IntKind.signed]; omega
        have hir : i < rs.length := by rw [HL.out]; exact hlt
        obtain ⟨b3, o3, rfl, _, h3⟩ := MX5.out.at_ (by omega)
        have y0 := h3 i hir
        have hli : rs[i].2.2.length = n := HRR.out _ (List.mem_map.2 ⟨rs[i], List.getElem_mem hir, rfl⟩)
        obtain ⟨b4, o4, hA, _, h4⟩ := C.nums_at (MX5.out.each rs[i] (List.getElem_mem hir)).1 (by omega)
        rw [hA, hli] at y0
        have ROW : Hid (∀ j (hj : j < n), ∃ x, w5.cell? ⟨b4, o4 + j, none⟩ = some (.int .i64 x) ∧ ui + v (j + 1) ≤ x) := Lib.hid (fun j hj => ⟨rs[i].2.2[j]'(by omega), h4 j (by omega), by
          have := HUI.out (j + 1) (by omega) (by omega)
          rw [C.cst_at2] at this
          have e := C.at2_rs rs hir (b := j) (by omega)
          rw [show i + 1 - 1 = i by omega, show j + 1 - 1 = j by omega, e] at this
          exact this⟩)
        have VJ : Hid (∀ j (hj : j < n), w5.cell? ⟨b2, o2 + j, none⟩ = some (.int .i64 (v (j + 1)))) := Lib.hid (fun j hj => by
          have := h2 j (by rw [C.dl_len]; exact hj)
          rw [C.dl_get] at this
          exact this)
        generalize rs[i].2.1 = cr at *
        clear h1 h2 h3 h4 hA hli HUI hui hvi hsm
        go_wp2_with fail
        go_quiet (fail)
        generalize nq = na at *
        go_wp2_with fail
        go_loopw [108] (fun v108 wr => ∃ j m : Nat, v108 = .int .i64 j ∧ j ≤ n ∧ wr = w5.drewN m) (fun v108 _ => n - (intOf v108).toNat)
        case atStart => exact ⟨0, m + na, rfl, by omega, by simp [Nat.add_assoc]⟩
        case round =>
          obtain ⟨j, m, rfl, hj, rfl⟩ := hrel
          by_cases hjt : j < n
          · obtain ⟨x, z0, hx⟩ := ROW.out j hjt
            have z1 := VJ.out j hjt
            have hv2 := HV.out (j + 1) (by omega) (by omega)
            generalize v (j + 1) = vj at *
            have q3 : (0 : Int) ≤ (j : Int) := by omega
            have q4 : (j : Int) < (n : Int) := by omega
            have t5 : decide (-100000000 ≤ vj) = true := decide_eq_true (by omega)
            have t6 : decide (vj ≤ 100000000) = true := decide_eq_true (by omega)
            have t7 : decide (x < ui + vj) = false := decide_eq_false (by omega)
            have u3 : IntKind.i64.wrap (ui + vj) = ui + vj := by simp [IntKind.wrap, IntKind.bits, IntKind.signed]; omega
            go_wp2_with fail
            go_quiet (fail)
            go_wp2
            go_roundw
            case rel => exact ⟨j + 1, m + nq, by go_num, by omega, by simp [Nat.add_assoc]⟩
            case measure => simp [intOf] <;> omega
          · have q3 : decide ((j : Int) < (n : Int)) = false := decide_eq_false (by omega)
            go_wp2
            go_roundw
            case rel => exact ⟨i + 1, m, by go_num, by omega, by rw [DN.out], rfl⟩
            case measure => simp [intOf] <;> omega
      · have q1 : decide ((i : Int) < (n : Int)) = false := decide_eq_false (by omega)
        have hin : i = n := by omega
        rw [hin]
        have BX := Lib.hid (below_drewN BW.out m)
        clear hin DB D0
        generalize C.dsum u v n = sm at *
        have hsm : (sm == sm) = true := beq_self_eq_true _
        go_wp2_with fail
        refine (awake_any _).mono ?_
        rintro e' w9 ⟨rfl, b9⟩
        go_wp2_with fail
        go_ret
        exact ⟨rfl, BX.out.trans (b9.mono BX.out.size)⟩
end Go.Proofs.Ytnekhlklflgodaa
