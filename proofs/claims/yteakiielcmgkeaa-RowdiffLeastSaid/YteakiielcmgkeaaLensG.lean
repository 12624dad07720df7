/-
  The walks of layer 16: the table of lengths, by the program (glyphs). By an AI agent.
-/
import Derived.Test.YteakiielcmgkeaaGl
import Derived.Test.YteakiielcmgkeaaTab
namespace Go.Proofs.Yteakiielcmgkeaa
open Go.RowKit Go.Deep

theorem Try.info3 : (Try.prog.info? 3).map (fun i => (i.zero, i.size, i.bytes)) = some (some (.int .i64 0), 1, 8) := by kernel_rfl
theorem Try.info50 : (Try.prog.info? 50).map (fun i => (i.zero, i.size, i.bytes)) = some (some (.slice none 0 0), 1, 24) := by kernel_rfl

set_option maxRecDepth 100000 in
set_option maxHeartbeats 8000000 in
theorem lengthsG_any (A1 A2 : Option Addr) (c1 c2 B : Nat) (a b : List R.G) (w : World) (ha : Reads w B 3 A1 a.length (R.gcs a)) (hb : Reads w B 3 A2 b.length (R.gcs b)) (hB : B ≤ w.heap.size) (hna : a.length ≤ 1000) (hnb : b.length ≤ 1000) :
    Calls Try.prog 32 #[.slice A1 a.length c1, .slice A2 b.length c2] w fun e w' => e = .returned (.slice (some ⟨w.heap.size, 0, none⟩) (a.length + 1) (a.length + 1)) ∧ E.Tb 50 3 w.heap.size w w' a.length b.length 0 (E.L a b) := by
  have HA := Lib.hid ha
  have HB := Lib.hid hb
  have F00 := (E.ti_first (w := w) (T := 50) (TI := 3) (n := a.length) (m := b.length) (f := E.L a b) rfl (E.L_end a b (.inl (Nat.le_refl _))))
  rw [World.setCell_alloc_past _ _ _ _ (by simp), World.setCell_alloc_at _ _ _ _ _ rfl] at F00
  have F0 := Lib.hid F00
  clear F00
  have FZ := Lib.hid (fun k (_ : k ≤ b.length) => E.L_end a b (i := a.length) (j := k) (.inl (Nat.le_refl _)))
  have hm1 : ∀ w1 : World, (Instr.makeSlice 58 (.int .i64 ((a.length : Int) + 1)) (.int .i64 ((a.length : Int) + 1))).run Try.prog w1 = .ok (.slice (some ⟨w1.heap.size, 0, none⟩) (a.length + 1) (a.length + 1)) (w1.alloc (.cells (madeCells #[.slice none 0 0] (a.length + 1)) 50)) := fun w1 => by
    have := run_make_row' (w := w1) (P := Try.prog) 58 50 (.slice none 0 0) 24 Try.underlying58 Try.info50 rfl .i64 .i64 (a.length + 1) (by omega) (by omega)
    rwa [show ((a.length + 1 : Nat) : Int) = (a.length : Int) + 1 by omega] at this
  have hm2 : ∀ w1 : World, (Instr.makeSlice 50 (.int .i64 ((b.length : Int) + 1)) (.int .i64 ((b.length : Int) + 1))).run Try.prog w1 = .ok (.slice (some ⟨w1.heap.size, 0, none⟩) (b.length + 1) (b.length + 1)) (w1.alloc (.cells (madeCells #[.int .i64 0] (b.length + 1)) 3)) := fun w1 => by
    have := run_make_row' (w := w1) (P := Try.prog) 50 3 (.int .i64 0) 8 Try.underlying50 Try.info3 rfl .i64 .i64 (b.length + 1) (by omega) (by omega)
    rwa [show ((b.length + 1 : Nat) : Int) = (b.length : Int) + 1 by omega] at this
  have ho := (E.outer_row (w := w) (N := w.heap.size) (T := 50) (n := a.length) (m := b.length) rfl).alloc (.cells (madeCells #[.int .i64 0] (b.length + 1)) 3)
  have g0 := ho.cell (i := a.length) (by omega)
  have g1 := ho.frozen a.length
  simp only [E.top, show ¬ (a.length + 1 ≤ a.length) by omega, if_false] at g0
  clear ha hb ho
  go_enter Try.func32, Try.ntmps32
  go_wp2
  go_loopw [6] (fun i wr => ∃ k : Nat, k ≤ a.length ∧ i = E.iv k ∧ E.Tb 50 3 w.heap.size w wr a.length b.length k (E.L a b)) (fun i _ => (intOf i + 1).toNat)
  case atStart => exact ⟨a.length, Nat.le_refl _, E.iv_eq _, E.ti_done (Nat.le_refl _) (E.ti_done_zero F0.out FZ.out)⟩
  case round =>
    obtain ⟨k, hk, rfl, hT⟩ := hrel
    clear F0 FZ
    cases k with
    | zero =>
      have hiv : E.iv 0 = .int .i64 (-1) := rfl
      rw [hiv]
      clear hiv
      go_wp2
      go_ret
      exact ⟨rfl, hT⟩
    | succ i =>
      have hiv : E.iv (i + 1) = .int .i64 i := rfl
      rw [hiv]
      clear hiv
      have TS0 := (E.ti_start (i := i) (by omega) hT (E.L_end a b (.inr (Nat.le_refl _))))
      rw [World.setCell_alloc_past _ _ _ _ hT.top.lt] at TS0
      have TS := Lib.hid TS0
      clear TS0
      have t0 := hT.top.cell (i := i) (by omega)
      have tf := hT.top.frozen i
      have tl := hT.top.lt
      generalize E.top w.heap.size a.length b.length (i + 1) i = tv at *
      clear hT
      go_wp2
      go_loopw [7] (fun j wi => ∃ k : Nat, k ≤ b.length ∧ j = E.iv k ∧ E.Ti 50 3 w.heap.size w wi a.length b.length i k (E.L a b)) (fun j _ => (intOf j + 1).toNat)
      case atStart => exact ⟨b.length, Nat.le_refl _, E.iv_eq _, TS.out⟩
      case round =>
        clear TS t0 tf tl
        obtain ⟨k, hk2, rfl, hI⟩ := hrel
        cases k with
        | zero =>
          have hiv : E.iv 0 = .int .i64 (-1) := rfl
          rw [hiv]
          clear hiv
          go_wp2
          go_roundw
          case rel => exact ⟨i, by omega, E.iv_eq _, E.ti_done (by omega) hI⟩
          case measure => simp [intOf] <;> omega
        | succ j =>
          have hiv : E.iv (j + 1) = .int .i64 j := rfl
          rw [hiv]
          clear hiv
          have hia : i < a.length := by omega
          have hjb : j < b.length := by omega
          obtain ⟨ba, oa, rfl, hba, hca⟩ := (HA.out.below hI.below hB).gl (by omega)
          obtain ⟨bb, ob, rfl, hbb, hcb⟩ := (HB.out.below hI.below hB).gl (by omega)
          obtain ⟨x0, xa, xb⟩ := hca i hia
          obtain ⟨y0, ya, yb⟩ := hcb j hjb
          have p0 := hI.top.cell (i := i) (by omega)
          have p1 := hI.top.cell (i := i + 1) (by omega)
          have d1 := fun q (hq : q ≤ b.length) => (hI.done (i + 1) (by omega) (by omega)).cell (i := q) (by omega)
          have e0 := hI.cur.cell (i := j) (by omega)
          have e1 := hI.cur.cell (i := j + 1) (by omega)
          have ef := hI.cur.frozen j
          have el := hI.cur.lt
          have STEP := Lib.hid (fun q => E.ti_step (by omega) (E.ti_drew hI q))
          have d11 := d1 (j + 1) (by omega)
          have d10 := d1 j (by omega)
          have hL := E.L_le a b (i + 1) (j + 1)
          have hL2 := E.L_le a b (i + 1) j
          have hL3 := E.L_le a b i (j + 1)
          simp only [E.top, Nat.le_refl, if_true, show i ≤ i + 1 by omega] at p0 p1
          rw [if_pos (Nat.le_refl _)] at e1
          rw [if_neg (by omega)] at e0
          obtain ⟨Bi, hBi⟩ : ∃ Bi, w.heap.size + 1 + (a.length - i) = Bi := ⟨_, rfl⟩
          obtain ⟨Bn, hBn⟩ : ∃ Bn, w.heap.size + 1 + (a.length - (i + 1)) = Bn := ⟨_, rfl⟩
          have hBB : Bn < Bi := by omega
          rw [hBi] at p0 e0 e1 ef el STEP
          rw [hBn] at p1 d11 d10
          have q1 : (0 : Int) ≤ (i : Int) := by omega
          have q2 : (i : Int) < (a.length : Int) := by omega
          have q3 : (0 : Int) ≤ (j : Int) := by omega
          have q4 : (j : Int) < (b.length : Int) := by omega
          have q5 : (i : Int) < (a.length : Int) + 1 := by omega
          have q6 : (i : Int) + 1 < (a.length : Int) + 1 := by omega
          have q7 : (j : Int) < (b.length : Int) + 1 := by omega
          have q8 : (j : Int) + 1 < (b.length : Int) + 1 := by omega
          have q9 : (0 : Int) ≤ (i : Int) + 1 := by omega
          have q10 : (0 : Int) ≤ (j : Int) + 1 := by omega
          have u1 : IntKind.i64.wrap ((i : Int) + 1) = (i : Int) + 1 := by simp [IntKind.wrap, IntKind.bits, IntKind.signed]; omega
          have u2 : IntKind.i64.wrap ((j : Int) + 1) = (j : Int) + 1 := by simp [IntKind.wrap, IntKind.bits, IntKind.signed]; omega
          have u3 : ((i : Int) + 1).toNat = i + 1 := by omega
          have u4 : ((j : Int) + 1).toNat = j + 1 := by omega
          clear hBi hBn hca hcb d1 hI
          by_cases hxy : a[i] = b[j]
          · have hv : E.L a b i j = 1 + E.L a b (i + 1) (j + 1) := E.L_eq a b hia hjb hxy
            rw [hv] at STEP
            rw [hxy] at x0 xa xb
            have EQ := R.eq_yes b[j]
            generalize b[j] = y at *
            generalize E.L a b (i + 1) (j + 1) = v at *
            have u5 : IntKind.i64.wrap (1 + (v : Int)) = 1 + (v : Int) := by simp [IntKind.wrap, IntKind.bits, IntKind.signed]; omega
            clear hxy hv
            go_wp2_with fail
            go_quiet (fail)
            have p0' : (wr.drewN nq).cell? _ = _ := p0
            have p1' : (wr.drewN nq).cell? _ = _ := p1
            have d11' : (wr.drewN nq).cell? _ = _ := d11
            have e0' : (wr.drewN nq).cell? _ = _ := e0
            have ef' : (wr.drewN nq).frozen? _ = _ := ef
            have el' : Bi < (wr.drewN nq).heap.size := el
            have ST1 := STEP.out nq
            rw [show ((1 + v : Nat) : Int) = 1 + (v : Int) by omega] at ST1
            have ST2 := Lib.hid ST1
            clear ST1
            generalize hw2 : World.drewN _ _ = w2 at *
            go_wp2_with fail
            go_still_tail 15, (by kernel_rfl)
            go_wp2
            go_roundw
            case rel => exact ⟨j, by omega, E.iv_eq j, E.ti_drew1 ST2.out⟩
            case measure => simp [intOf] <;> omega
          · have hv : E.L a b i j = max (E.L a b (i + 1) j) (E.L a b i (j + 1)) := E.L_ne a b hia hjb hxy
            rw [hv] at STEP
            generalize b[j] = y at *
            generalize a[i] = x at *
            have EQ := R.eq_no hxy
            generalize E.L a b (i + 1) j = v at *
            generalize E.L a b i (j + 1) = u at *
            clear hv hxy
            go_wp2_with fail
            go_quiet (fail)
            have p0' : (wr.drewN nq).cell? _ = _ := p0
            have p1' : (wr.drewN nq).cell? _ = _ := p1
            have d10' : (wr.drewN nq).cell? _ = _ := d10
            have e0' : (wr.drewN nq).cell? _ = _ := e0
            have e1' : (wr.drewN nq).cell? _ = _ := e1
            have ef' : (wr.drewN nq).frozen? _ = _ := ef
            have el' : Bi < (wr.drewN nq).heap.size := el
            have ST1 := STEP.out nq
            by_cases huv : u ≤ v
            · rw [show max v u = v by omega] at ST1
              have ST2 := Lib.hid ST1
              have hm3 : decide ((v : Int) < (u : Int)) = false := decide_eq_false (by omega)
              have hm4 : decide ((u : Int) ≤ (v : Int)) = true := decide_eq_true (by omega)
              clear ST1
              generalize hw2 : World.drewN _ _ = w2 at *
              go_wp2_with fail
              go_still_tail 22, (by kernel_rfl)
              go_wp2
              go_roundw
              case rel => exact ⟨j, by omega, E.iv_eq j, E.ti_drew1 ST2.out⟩
              case measure => simp [intOf] <;> omega
            · rw [show max v u = u by omega] at ST1
              have ST2 := Lib.hid ST1
              have hm3 : decide ((v : Int) < (u : Int)) = true := decide_eq_true (by omega)
              have hm4 : decide ((u : Int) ≤ (v : Int)) = false := decide_eq_false (by omega)
              clear ST1
              generalize hw2 : World.drewN _ _ = w2 at *
              go_wp2_with fail
              go_still_tail 22, (by kernel_rfl)
              go_wp2
              go_roundw
              case rel => exact ⟨j, by omega, E.iv_eq j, E.ti_drew1 ST2.out⟩
              case measure => simp [intOf] <;> omega
end Go.Proofs.Yteakiielcmgkeaa
