/-
  The statements of layer 29: AssignmentSolve. By an AI agent.
-/
import Derived.Test.YtnekhlklflgodaaRso
import Derived.Test.YtnekhlklflgodaaAwk
namespace Go.Proofs.Ytnekhlklflgodaa
open Go.RowKit

/-- What Solve answers, as a list. -/
def C.PX (m : List (List Int)) (xs : List Int) : Prop := (C.chkV m ≠ 0 ∧ xs = []) ∨ (C.chkV m = 0 ∧ ∃ N, A.Best m.length (C.cst m) N ∧ xs = C.asg m.length N)
theorem C.px_eq {m : List (List Int)} {xs ys : List Int} (h : C.PX m xs) (h' : C.PX m ys) : xs = ys := by
  rcases h with ⟨h0, rfl⟩ | ⟨h0, N, hN, rfl⟩
  · rcases h' with ⟨_, rfl⟩ | ⟨h1, _⟩
    · rfl
    · exact absurd h1 h0
  · rcases h' with ⟨h1, _⟩ | ⟨_, N', hN', rfl⟩
    · exact absurd h0 h1
    · exact C.asg_congr (A.best_unique hN hN')
theorem C.px_len {m : List (List Int)} {xs : List Int} (h : C.PX m xs) : xs.length ≤ m.length := by
  rcases h with ⟨_, rfl⟩ | ⟨_, N, _, rfl⟩
  · simp
  · rw [C.asg_len]; exact Nat.le_refl _
def C.PXOut (m : List (List Int)) (w w' : World) (e : Ending) : Prop := ∃ A1 c1 xs, e = .returned (.tuple #[.slice A1 xs.length c1, .int .i64 (C.chkV m)]) ∧ C.PX m xs ∧ Reads w' w'.heap.size 1 A1 xs.length (C.ns xs) ∧ Below w.heap.size w w'
theorem solve_px (B : Nat) (Ad : Option Addr) (cp : Nat) (rs : List (Option Addr × Nat × List Int)) (w : World) (h : C.Mx w B Ad rs) (hB : B ≤ w.heap.size) :
    Calls Try.prog 11 #[.slice Ad rs.length cp] w fun e w' => C.PXOut (C.mt rs) w w' e := by
  have SV := Solve_any B Ad cp rs w h hB
  unfold C.SolveOut at SV
  refine SV.mono ?_
  rintro e w' ⟨hb, ⟨hz, rfl⟩ | ⟨hz, Ar, ca, N, rfl, h1, h2⟩⟩
  · exact ⟨none, 0, [], rfl, .inl ⟨hz, rfl⟩, ⟨by simp [C.ns], fun h => absurd h (by simp)⟩, hb⟩
  · exact ⟨Ar, ca, C.asg (C.mt rs).length N, by rw [C.asg_len, hz], .inr ⟨hz, N, h2, rfl⟩, by rw [C.asg_len]; exact h1, hb⟩
set_option maxRecDepth 100000 in
set_option maxHeartbeats 4000000 in
theorem refsolve_px (Ad : Option Addr) (cp : Nat) (rs : List (Option Addr × Nat × List Int)) (w : World) (h : C.Mx w w.heap.size Ad rs) (hn : rs.length ≤ 6) :
    Calls Try.prog 12 #[.slice Ad rs.length cp] w fun e w' => C.PXOut (C.mt rs) w w' e := by
  have hl : (C.mt rs).length = rs.length := by simp [C.mt]
  by_cases hz : C.chkV (C.mt rs) = 0
  · refine (refsolve_any Ad cp rs.length rs w h (C.chk_sq hz) rfl hn).mono ?_
    rintro e w' ⟨A1, c1, R, rfl, h1, h2, h3⟩
    have hq := C.chk_sq hz
    refine ⟨A1, c1, C.asg (C.mt rs).length R, by rw [C.asg_len, hl, hz], .inr ⟨hz, R, ?_, rfl⟩, by rw [C.asg_len, hl]; exact h1, h3⟩
    rw [hl]
    exact A.picks_best (fun r j _ _ _ _ => (C.at2_range hq (r - 1) (j - 1)).1) h2
  · have CK := Lib.hid (refcheck_any w.heap.size Ad cp rs w h)
    have hzn : (C.chkV (C.mt rs) != 0) = true := bne_iff_ne.2 hz
    have PXE : Hid (C.PX (C.mt rs) []) := Lib.hid (.inl ⟨hz, rfl⟩)
    have BB : Hid (Below w.heap.size w (w.alloc (.cells #[] 3))) := Lib.hid ((Below.refl _ w).alloc (Nat.le_refl _) _)
    have RR : Hid (Reads (w.alloc (.cells #[] 3)) (w.alloc (.cells #[] 3)).heap.size 1 (some ⟨w.heap.size, 0, none⟩) ([] : List Int).length (C.ns [])) := Lib.hid ⟨by simp [C.ns], fun h => absurd h (by simp)⟩
    clear h hl hz
    unfold C.PXOut
    generalize C.chkV (C.mt rs) = z at *
    go_enter Try.func12, Try.ntmps12
    go_wp2_with fail
    refine CK.out.mono ?_
    rintro e' w1 ⟨rfl, rfl⟩
    go_wp2_with fail
    go_ret2
    exact ⟨some ⟨_, 0, none⟩, 0, [], rfl, PXE.out, RR.out, BB.out⟩

set_option maxRecDepth 100000 in
set_option maxHeartbeats 8000000 in
theorem solvelaw_any (Ad : Option Addr) (cp : Nat) (rs : List (Option Addr × Nat × List Int)) (Al : Option Addr) (cl : Nat) (l : List Int) (w : World) (h : C.Mx w w.heap.size Ad rs) (hr : Reads w w.heap.size 1 Al l.length (C.ns l)) (_ : ∀ z ∈ l, (Lit.int .i64 z).wf = true) (hy : l.length ≤ 17592186043904) :
    Calls Try.prog 3 #[.slice Ad rs.length cp, .slice Al l.length cl] w fun e w' => e = .returned (.bool true) ∧ Below w.heap.size w w' := by
  have hlen := h.len
  unfold maxLen at hlen
  by_cases h6 : 6 < rs.length
  · have t1 : decide ((6 : Int) < (rs.length : Int)) = true := decide_eq_true (by omega)
    go_enter Try.func3, Try.ntmps3
    go_wp2_with fail
    refine (awake_any _).mono ?_
    rintro e' w9 ⟨rfl, b9⟩
    go_wp2_with fail
    go_ret
    exact ⟨rfl, b9⟩
  · have t1 : decide ((6 : Int) < (rs.length : Int)) = false := decide_eq_false (by omega)
    by_cases h8 : 8 < l.length
    · have t2 : decide ((8 : Int) < (l.length : Int)) = true := decide_eq_true (by omega)
      go_enter Try.func3, Try.ntmps3
      go_wp2_with fail
      refine (awake_any _).mono ?_
      rintro e' w9 ⟨rfl, b9⟩
      go_wp2_with fail
      go_ret
      exact ⟨rfl, b9⟩
    · have t2 : decide ((8 : Int) < (l.length : Int)) = false := decide_eq_false (by omega)
      have HM := Lib.hid h
      have HR := Lib.hid hr
      have S1 := Lib.hid (solve_px w.heap.size Ad cp rs w h (Nat.le_refl _))
      have S2 := Lib.hid (fun (w' : World) (hb : Below w.heap.size w w') => refsolve_px Ad cp rs w' ((h.below hb (Nat.le_refl _)).more hb.size) (by omega))
      have T1 := Lib.hid (fun (w' : World) (hb : Below w.heap.size w w') => Total_any w.heap.size Ad Al cp cl rs l w' (h.below hb (Nat.le_refl _)) (hr.below hb (Nat.le_refl _)) (by simp only [maxLen]; omega) hb.size)
      have T2 := Lib.hid (fun (w' : World) (hb : Below w.heap.size w w') => reftotal_any w.heap.size Ad Al cp cl rs l w' (h.below hb (Nat.le_refl _)) (hr.below hb (Nat.le_refl _)) (by simp only [maxLen]; omega))
      have HLM : Hid ((C.mt rs).length = rs.length) := Lib.hid (by simp [C.mt])
      clear h hr
      go_enter Try.func3, Try.ntmps3
      go_wp2_with fail
      go_loopw [25] (fun v25 wr => ∃ k : Nat, v25 = .int .i64 k ∧ k ≤ rs.length ∧ w = wr) (fun v25 _ => rs.length - (intOf v25).toNat)
      case atStart => exact ⟨0, rfl, Nat.zero_le _, rfl⟩
      case round =>
        obtain ⟨k, rfl, hk, rfl⟩ := hrel
        by_cases hlt : k < rs.length
        · have q1 : (0 : Int) ≤ (k : Int) := by omega
          have q2 : (k : Int) < (rs.length : Int) := by omega
          obtain ⟨b1, o1, rfl, _, h1⟩ := HM.out.at_ (by omega)
          have y0 := h1 k hlt
          clear h1
          by_cases hr8 : 8 < rs[k].2.2.length
          · have t3 : decide ((8 : Int) < (rs[k].2.2.length : Int)) = true := decide_eq_true (by omega)
            generalize rs[k].2.1 = cr at *
            generalize rs[k].1 = ar at *
            generalize rs[k].2.2.length = nl at *
            go_wp2_with fail
            refine (awake_any _).mono ?_
            rintro e' w9 ⟨rfl, b9⟩
            go_wp2_with fail
            go_ret
            exact ⟨rfl, b9⟩
          · have t3 : decide ((8 : Int) < (rs[k].2.2.length : Int)) = false := decide_eq_false (by omega)
            generalize rs[k].2.1 = cr at *
            generalize rs[k].1 = ar at *
            generalize rs[k].2.2.length = nl at *
            go_wp2_with fail
            go_roundw
            case rel => exact ⟨k + 1, by go_num, hlt, by first | rfl | trivial⟩
            case measure => simp [intOf] <;> omega
        · have q1 : decide ((k : Int) < (rs.length : Int)) = false := decide_eq_false (by omega)
          unfold C.PXOut at S1 S2
          obtain ⟨z, hz⟩ : ∃ z, C.chkV (C.mt rs) = z := ⟨_, rfl⟩
          obtain ⟨tv, htv⟩ : ∃ tv, C.totV (C.mt rs) l = tv := ⟨_, rfl⟩
          obtain ⟨tx, te⟩ := tv
          rw [hz] at S1 S2
          rw [htv] at T1 T2
          clear hz htv
          have e1 : (z == z) = true := beq_self_eq_true _
          have e2 : (tx == tx) = true := beq_self_eq_true _
          have e3 : (te == te) = true := beq_self_eq_true _
          go_wp2_with fail
          refine S1.out.mono ?_
          rintro e' w2 ⟨Aa, ca, xs, rfl, px, rx, b2⟩
          have PX := Lib.hid px
          have RX := Lib.hid rx
          have B2 := Lib.hid b2
          have S3 := Lib.hid (S2.out w2 b2)
          clear S1 S2 px rx b2
          go_wp2_with fail
          refine S3.out.mono ?_
          rintro e' w3 ⟨Ab, cb, ys, rfl, py, ry, b3⟩
          have hxy := C.px_eq PX.out py
          subst hxy
          have B3 := Lib.hid (B2.out.trans (b3.mono B2.out.size))
          have RX3 := Lib.hid ((RX.out.below b3 (Nat.le_refl _)).more b3.size)
          have RY := Lib.hid ry
          have hxl : xs.length ≤ 6 := by have := C.px_len py; have := HLM.out; omega
          have T3 := Lib.hid (T1.out w3 B3.out)
          clear S3 T1 py ry b3 RX PX
          go_wp2_with fail
          refine T3.out.mono ?_
          rintro e' w4 ⟨rfl, b4⟩
          have B4 := Lib.hid (B3.out.trans (b4.mono B3.out.size))
          have T4 := Lib.hid (T2.out w4 B4.out)
          have SM := Lib.hid (fun m => sameints_any w4.heap.size Aa Ab ca cb xs xs (w4.drewN m) (((RX3.out.below b4 (Nat.le_refl _)).more b4.size).drewN m) (((RY.out.below b4 (Nat.le_refl _)).more b4.size).drewN m) (by simp only [maxLen]; omega) (by simp only [maxLen]; omega))
          have DX : decide (xs = xs) = true := decide_eq_true rfl
          rw [DX] at SM
          clear T3 T2 RX3 RY b4 DX B3
          go_wp2_with fail
          refine T4.out.mono ?_
          rintro e' _ ⟨rfl, m1, rfl⟩
          go_wp2_with fail
          refine (SM.out m1).mono ?_
          rintro e' _ ⟨rfl, m2, rfl⟩
          go_wp2_with fail
          refine (awake_any _).mono ?_
          rintro e' w9 ⟨rfl, b9⟩
          go_wp2_with fail
          go_ret
          have B7 := below_drewN B4.out (m1 + m2)
          exact ⟨rfl, B7.trans (b9.mono B7.size)⟩
end Go.Proofs.Ytnekhlklflgodaa
