/-
  The statements of layer 29: AssignmentLeast. By an AI agent.
-/
import Derived.Lib.SliceRun
import Derived.Laws.CopyOwn
import Derived.Test.YtnekhlklflgodaaLa4
namespace Go.Proofs.Ytnekhlklflgodaa
open Go.RowKit

set_option maxRecDepth 100000 in
set_option maxHeartbeats 16000000 in
theorem leastlaw_any (Al : Option Addr) (cl : Nat) (l : List Int) (x : Int) (w : World) (hr : Reads w w.heap.size 1 Al l.length (C.ns l)) (_ : ∀ z ∈ l, (Lit.int .i64 z).wf = true) (hy : l.length ≤ 17592186043904) (hx0 : 0 ≤ x) (hx1 : x ≤ 255) :
    Calls Try.prog 7 #[.slice Al l.length cl, .int .u8 x] w fun e w' => e = .returned (.bool true) ∧ Below w.heap.size w w' := by
  obtain ⟨s, rfl⟩ : ∃ s : Nat, x = s := ⟨x.toNat, by omega⟩
  obtain ⟨n, hn⟩ : ∃ n : Nat, s % 11 = n := ⟨_, rfl⟩
  have hn12 : n < 11 := by omega
  have us : ((s : Int)) % 11 = (n : Int) := by omega
  have uc : IntKind.i64.wrap (s : Int) = (s : Int) := by simp [IntKind.wrap, IntKind.bits, IntKind.signed]; omega
  have HN := Lib.hid hn
  clear hn
  by_cases h150 : 150 < l.length
  · go_enter Try.func7, Try.ntmps7
    go_wp2_with fail
    refine (awake_any _).mono ?_
    rintro e' w9 ⟨rfl, b9⟩
    go_wp2_with fail
    go_ret
    exact ⟨rfl, b9⟩
  · have h150' : decide ((150 : Int) < (l.length : Int)) = false := decide_eq_false (by omega)
    have h150'' : decide (150 < l.length) = false := decide_eq_false h150
    have MT := Lib.hid (matrix_any w.heap.size Al cl l n 9 w hr (Nat.le_refl _) (by omega) (by omega) (by omega))
    have SQ := Lib.hid (C.mtx_sq l (mo := 9) (by omega) (by omega) (n := n) (by omega))
    clear hr h150
    go_enter Try.func7, Try.ntmps7
    go_wp2_with fail
    refine MT.out.mono ?_
    rintro e' w1 ⟨v, rs, rfl, hom, hmt, b1⟩
    clear MT
    have hl : rs.length = n := by have := congrArg List.length hmt; simpa [C.mt, C.mtx_len] using this
    have hq : C.Sq (C.mt rs) := by rw [hmt]; exact SQ.out
    obtain ⟨Ad, cp, rfl, hmx⟩ := hom.mx (by simp only [maxLen]; omega) (fun r hr => by
      have := hq.2.1 _ (List.mem_map.2 ⟨r, hr, rfl⟩)
      have h2 := hq.1
      simp only [maxLen]
      omega)
    have hlm : (C.mt rs).length = n := by simp [C.mt, hl]
    have SV := Solve_any w1.heap.size Ad cp rs w1 hmx (Nat.le_refl _)
    unfold C.SolveOut at SV
    rw [hlm, hl] at SV
    have SV := Lib.hid SV
    have CK := Lib.hid (C.chk_of_sq hq)
    have HQ := Lib.hid hq
    have HMX := Lib.hid hmx
    have B1 := Lib.hid b1
    have HLM := Lib.hid hlm
    have HL := Lib.hid hl
    rw [hl]
    clear hom hmt hmx hq b1 hlm hl SQ
    go_wp2_with fail
    refine SV.out.mono ?_
    rintro e' w2 ⟨b2, hres⟩
    rcases hres with ⟨hz, _⟩ | ⟨_, Ar, ca, N, rfl, hrd, hbest⟩
    · exact absurd CK.out hz
    have BST := Lib.hid hbest
    have PF := Lib.hid hbest.pf
    have MX2 := Lib.hid (HMX.out.below b2 (Nat.le_refl _))
    have RD := Lib.hid hrd
    have B2 := Lib.hid (B1.out.trans (b2.mono B1.out.size))
    have hw12 := b2.size
    have hw01 := B1.out.size
    clear SV hbest hrd b2 B1 HMX
    have HEN := Lib.hid (C.ent_range HQ.out (C.asg n N))
    have HRL : Hid (∀ i (hi : i < rs.length), rs[i].2.2.length = n) := Lib.hid (fun i hi => by rw [← HLM.out]; exact HQ.out.2.1 _ (List.mem_map.2 ⟨rs[i], List.getElem_mem hi, rfl⟩))
    have HRG : Hid (∀ i (hi : i < rs.length) x (hx : x < rs[i].2.2.length), 0 ≤ rs[i].2.2[x] ∧ rs[i].2.2[x] ≤ 1000000) := Lib.hid (fun i hi x hx => by
      have := HQ.out.2.2 _ (List.mem_map.2 ⟨rs[i], List.getElem_mem hi, rfl⟩) _ (List.getElem_mem hx)
      unfold A.M at this
      exact this)
    have LA := Lib.hid (C.asg_len n N)
    have RD3 : Hid (Reads w2 w2.heap.size 1 Ar (C.asg n N).length (C.ns (C.asg n N))) := by rw [C.asg_len]; exact RD
    have MX3 : Hid (C.Mx w2 w2.heap.size Ad rs) := Lib.hid (MX2.out.more hw12)
    clear RD MX2 hw12 hw01
    go_wp2_with fail
    go_loopw [37] (fun v37 wr => ∃ i m : Nat, v37 = .int .i64 i ∧ i ≤ n ∧ wr = w2.drewN m) (fun v37 _ => n - (intOf v37).toNat)
    case atStart => exact ⟨0, 0, rfl, by omega, rfl⟩
    case round =>
      obtain ⟨i, m, rfl, hi, rfl⟩ := hrel
      by_cases hlt : i < n
      · go_wp2_with fail
        have u1 : IntKind.i64.wrap ((i : Int) + 1) = ((i + 1 : Nat) : Int) := by simp [IntKind.wrap, IntKind.bits, IntKind.signed]; omega
        try rw [u1]
        go_loopw [10] (fun v10 wr => ∃ j m : Nat, v10 = .int .i64 j ∧ i < j ∧ j ≤ n ∧ wr = w2.drewN m) (fun v10 _ => n - (intOf v10).toNat)
        case atStart => exact ⟨i + 1, m, by go_num, by omega, by omega, rfl⟩
        case round =>
          obtain ⟨j, m, rfl, hij, hj, rfl⟩ := hrel
          by_cases hjt : j < n
          · have hil : i < (C.asg n N).length := by rw [LA.out]; exact hlt
            have hjl : j < (C.asg n N).length := by rw [LA.out]; exact hjt
            obtain ⟨b2, o2, rfl, hb2, h2⟩ := C.nums_at RD3.out (by omega)
            have x0 := h2 i hil
            have x1 := h2 j hjl
            have hrg := PF.out.rg (i + 1) (by omega) (by omega)
            have hrg' := PF.out.rg (j + 1) (by omega) (by omega)
            have hll := A.least_law BST.out (i := i + 1) (j := j + 1) (by omega) (by omega) (by omega)
            have hir : i < rs.length := by rw [HL.out]; exact hlt
            have hjr : j < rs.length := by rw [HL.out]; exact hjt
            obtain ⟨x, hx⟩ : ∃ x : Nat, (C.asg n N)[i] = x := ⟨N (i + 1) - 1, by rw [C.asg_get]; omega⟩
            obtain ⟨y, hy'⟩ : ∃ y : Nat, (C.asg n N)[j] = y := ⟨N (j + 1) - 1, by rw [C.asg_get]; omega⟩
            have hxn : N (i + 1) = x + 1 := by rw [C.asg_get] at hx; omega
            have hyn : N (j + 1) = y + 1 := by rw [C.asg_get] at hy'; omega
            have kxi : x < rs[i].2.2.length := by rw [HRL.out i hir]; omega
            have kyi : y < rs[i].2.2.length := by rw [HRL.out i hir]; omega
            have kxj : x < rs[j].2.2.length := by rw [HRL.out j hjr]; omega
            have kyj : y < rs[j].2.2.length := by rw [HRL.out j hjr]; omega
            have cst : ∀ k (hk : k < rs.length) z (hz : z < rs[k].2.2.length), C.cst (C.mt rs) (k + 1) (z + 1) = rs[k].2.2[z] := fun k hk z hz => by
              unfold C.cst
              simp [C.mt, List.getD, hk, hz]
            rw [hxn, hyn, cst i hir x kxi, cst j hjr y kyj, cst i hir y kyi, cst j hjr x kxj] at hll
            have g1 := HRG.out i hir x kxi
            have g2 := HRG.out j hjr y kyj
            have g3 := HRG.out i hir y kyi
            have g4 := HRG.out j hjr x kxj
            obtain ⟨b1, o1, rfl, hb1, h1⟩ := MX3.out.at_ (by omega)
            have y0 := h1 i hir
            have y1 := h1 j hjr
            obtain ⟨b3, o3, hA, hb3, h3⟩ := C.nums_at (MX3.out.each rs[i] (List.getElem_mem hir)).1 (by omega)
            have z00 := h3 x kxi
            have z01 := h3 y kyi
            obtain ⟨b4, o4, hA', hb4, h4⟩ := C.nums_at (MX3.out.each rs[j] (List.getElem_mem hjr)).1 (by omega)
            have z10 := h4 x kxj
            have z11 := h4 y kyj
            rw [hA] at y0
            rw [hA'] at y1
            rw [hx] at x0
            rw [hy'] at x1
            have q1 : (0 : Int) ≤ (i : Int) := by omega
            have q2 : (i : Int) < (n : Int) := by omega
            have q3 : (0 : Int) ≤ (j : Int) := by omega
            have q4 : (j : Int) < (n : Int) := by omega
            have q5 : decide ((x : Int) < 0) = false := decide_eq_false (by omega)
            have q6 : decide ((n : Int) ≤ (x : Int)) = false := decide_eq_false (by omega)
            have q7 : decide (n ≤ x) = false := decide_eq_false (by omega)
            have q8 : decide ((y : Int) < 0) = false := decide_eq_false (by omega)
            have q9 : decide ((n : Int) ≤ (y : Int)) = false := decide_eq_false (by omega)
            have q10 : decide (n ≤ y) = false := decide_eq_false (by omega)
            have q11 : (0 : Int) ≤ (x : Int) := by omega
            have q12 : (0 : Int) ≤ (y : Int) := by omega
            have q13 : (x : Int) < (rs[i].2.2.length : Int) := by omega
            have q14 : (y : Int) < (rs[i].2.2.length : Int) := by omega
            have q15 : (x : Int) < (rs[j].2.2.length : Int) := by omega
            have q16 : (y : Int) < (rs[j].2.2.length : Int) := by omega
            have hj11 : j < 11 := by omega
            clear h1 h2 h3 h4 hA hA' hx hy' hrg hrg' hxn hyn cst
            generalize rs[i].2.2[x] = e00 at *
            generalize rs[i].2.2[y] = e01 at *
            generalize rs[j].2.2[x] = e10 at *
            generalize rs[j].2.2[y] = e11 at *
            generalize rs[i].2.2.length = n1 at *
            generalize rs[j].2.2.length = n2 at *
            generalize rs[i].2.1 = cr1 at *
            generalize rs[j].2.1 = cr2 at *
            have u2 : IntKind.i64.wrap (e00 + e11) = e00 + e11 := by simp [IntKind.wrap, IntKind.bits, IntKind.signed]; omega
            have u3 : IntKind.i64.wrap (e01 + e10) = e01 + e10 := by simp [IntKind.wrap, IntKind.bits, IntKind.signed]; omega
            have t1 : decide (e01 + e10 < e00 + e11) = false := decide_eq_false (by omega)
            have t1' : ¬ (e01 + e10 < e00 + e11) := by omega
            have u4 : IntKind.i64.wrap ((j : Int) + 1) = ((j + 1 : Nat) : Int) := by simp [IntKind.wrap, IntKind.bits, IntKind.signed]; omega
            by_cases ec : e01 + e10 = e00 + e11
            · have t2 : (e01 + e10 == e00 + e11) = true := beq_iff_eq.2 ec
              have hle := hll.2 ec
              have t3 : decide ((y : Int) < (x : Int)) = false := decide_eq_false (by omega)
              have t4 : decide (y < x) = false := decide_eq_false (by omega)
              clear hll g1 g2 g3 g4 ec t1' hle
              go_wp2_with fail
              go_quiet (fail)
              generalize nq = na at *
              go_wp2_with fail
              go_quiet (fail)
              go_wp2
              go_roundw
              case rel => exact ⟨j + 1, m + na + nq, by go_num, by omega, by omega, by simp [Nat.add_assoc]⟩
              case measure => simp [intOf] <;> omega
            · have t2 : (e01 + e10 == e00 + e11) = false := beq_eq_false_iff_ne.2 ec
              clear hll g1 g2 g3 g4 ec t1'
              go_wp2_with fail
              go_quiet (fail)
              generalize nq = na at *
              go_wp2_with fail
              go_quiet (fail)
              go_wp2
              go_roundw
              case rel => exact ⟨j + 1, m + na + nq, by go_num, by omega, by omega, by simp [Nat.add_assoc]⟩
              case measure => simp [intOf] <;> omega
          · have q1 : decide ((j : Int) < (n : Int)) = false := decide_eq_false (by omega)
            go_wp2
            go_roundw
            case rel => exact ⟨i + 1, m, by go_num, by omega, rfl⟩
            case measure => simp [intOf] <;> omega
      · have q1 : decide ((i : Int) < (n : Int)) = false := decide_eq_false (by omega)
        have BW : Hid (Below w.heap.size w (w2.drewN m)) := Lib.hid (below_drewN B2.out m)
        go_wp2_with fail
        refine (awake_any _).mono ?_
        rintro e' w9 ⟨rfl, b9⟩
        go_wp2_with fail
        go_ret
        exact ⟨rfl, BW.out.trans (b9.mono BW.out.size)⟩
end Go.Proofs.Ytnekhlklflgodaa
