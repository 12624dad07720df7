/-
  The walks of layer 16: the reference's Walk. By an AI agent.
-/
import Derived.Test.YteakiielcmgkeaaLensI
import Derived.Test.YteakiielcmgkeaaWkG
import Derived.Test.YteakiielcmgkeaaSm
import Derived.Test.YteakiielcmgkeaaRound
namespace Go.Proofs.Yteakiielcmgkeaa
set_option linter.unusedSimpArgs false
set_option linter.unusedVariables false
open Go.RowKit

section
variable (a b : List Int)
theorem E.walk_casesI {i j : Nat} (hi : i ≤ a.length) (hj : j ≤ b.length) :
    (i = a.length ∧ j = b.length ∧ E.rest a b i j = []) ∨
    (i < a.length ∧ j = b.length ∧ E.rest a b i j = (1, i) :: E.rest a b (i + 1) j) ∨
    (i = a.length ∧ j < b.length ∧ E.rest a b i j = (2, i) :: E.rest a b i (j + 1)) ∨
    (i < a.length ∧ j < b.length ∧ ((a.getD i 0 = b.getD j 0 ∧ E.rest a b i j = (0, i) :: E.rest a b (i + 1) (j + 1)) ∨
      (a.getD i 0 ≠ b.getD j 0 ∧ E.L a b i (j + 1) ≤ E.L a b (i + 1) j ∧ E.rest a b i j = (1, i) :: E.rest a b (i + 1) j) ∨
      (a.getD i 0 ≠ b.getD j 0 ∧ E.L a b (i + 1) j < E.L a b i (j + 1) ∧ E.rest a b i j = (2, i) :: E.rest a b i (j + 1)))) := by
  by_cases h1 : i < a.length
  · by_cases h2 : j < b.length
    · refine .inr (.inr (.inr ⟨h1, h2, ?_⟩))
      rw [getD_at h1, getD_at h2]
      by_cases e : a[i] = b[j]
      · exact .inl ⟨e, E.rest_match h1 h2 e⟩
      · by_cases hl : E.L a b i (j + 1) ≤ E.L a b (i + 1) j
        · exact .inr (.inl ⟨e, hl, E.rest_rem h1 h2 e hl⟩)
        · exact .inr (.inr ⟨e, by omega, E.rest_add h1 h2 e hl⟩)
    · exact .inr (.inl ⟨h1, by omega, E.rest_rem_end h1 (by omega)⟩)
  · by_cases h2 : j < b.length
    · exact .inr (.inr (.inl ⟨by omega, h2, E.rest_add_end (by omega) h2⟩))
    · exact .inl ⟨by omega, by omega, E.rest_end (by omega) (by omega)⟩
end
/-- The steps alone. -/
def E.stp (l : List (Nat × Nat)) : List Int := l.map fun x => (x.1 : Int)

set_option maxRecDepth 100000 in
set_option maxHeartbeats 16000000 in
theorem refwalk_in (A1 A2 : Option Addr) (c1 c2 B : Nat) (a b : List Int) (w : World) (ha : Reads w B 1 A1 a.length (E.ns a)) (hb : Reads w B 1 A2 b.length (E.ns b)) (hB : B ≤ w.heap.size) (hna : a.length ≤ 1000) (hnb : b.length ≤ 1000) :
    Calls Try.prog 35 #[.slice A1 a.length c1, .slice A2 b.length c2] w fun e W' => ∃ v, e = .returned v ∧ W'.ownsRow w.heap.size 3 1 v (E.ys a b).length (E.ns (E.stp (E.ys a b))) ∧ Below w.heap.size w W' := by
  have TB := Lib.hid (table_any A1 A2 c1 c2 B a b w ha hb hB hna hnb)
  have HA := Lib.hid ha
  have HB := Lib.hid hb
  clear ha hb
  obtain ⟨i0, hi0, hz0, hz1, hz2⟩ := info_parts Try.info3
  go_enter Try.func35, Try.ntmps35
  go_wp2_with fail
  refine TB.out.mono ?_
  clear TB
  rintro e w1 ⟨rfl, hT⟩
  have hbT := hT.below
  have HSZ := Lib.hid hT.size
  have HT := Lib.hid (E.tb_tbk hT)
  have OWN0 := Lib.hid (World.ownsRow_lit (base := w1.heap.size) (e := 3) (size := 1) w1 #[] 0 (Nat.le_refl _) (by decide) rfl)
  have hb0 : Below w1.heap.size w1 (w1.alloc (.cells #[] 3)) := (Below.refl _ _).alloc (Nat.le_refl _) _
  clear hT
  go_wp2
  go_loopw [6, 7, 8] (fun vo vi vj wr => ∃ (pre : List (Nat × Nat)) (i j : Nat), vi = .int .i64 i ∧ vj = .int .i64 j ∧ i ≤ a.length ∧ j ≤ b.length ∧ pre.length ≤ i + j ∧ Hid (E.ys a b = pre ++ E.rest a b i j) ∧ wr.ownsRow w1.heap.size 3 1 vo pre.length (E.ns (E.stp pre)) ∧ Below w1.heap.size w1 wr)
    (fun _ vi vj _ => (a.length - (intOf vi).toNat) + (b.length - (intOf vj).toNat))
  case atStart => exact ⟨[], 0, 0, rfl, rfl, Nat.zero_le _, Nat.zero_le _, Nat.zero_le _, Lib.hid rfl, by simpa [E.ns, E.stp] using OWN0.out, hb0⟩
  case round =>
    clear hb0 OWN0
    obtain ⟨pre, i, j, rfl, rfl, hi, hj, hpl, hx, hown, hb⟩ := hrel
    have hbw := hbT.trans (hb.mono hbT.size)
    rcases E.walk_casesI a b hi hj with ⟨rfl, rfl, hrs⟩ | ⟨h1, rfl, hrs⟩ | ⟨rfl, h2, hrs⟩ | ⟨h1, h2, ⟨he, hrs⟩ | ⟨he, hle, hrs⟩ | ⟨he, hle, hrs⟩⟩
    · have RS := Lib.hid hrs
      clear hrs
      go_wp2
      go_ret
      have e1 : pre = E.ys a b := by rw [hx.out, RS.out, List.append_nil]
      rw [e1] at hown
      exact ⟨_, rfl, own_less hown hbT.size, hbw⟩
    · -- the new list is at its end
      have q0 : pre.length ≤ 2000 := by omega
      have q1 : (0 : Int) ≤ (i : Int) := by omega
      have q2 : (i : Int) < (a.length : Int) := by omega
      have s1 : i < a.length := by omega
      have RS := Lib.hid hrs
      clear hrs hbw
      go_wp2
      go_quiet (fail)
      have hown2 : (wr.drewN nq).ownsRow w1.heap.size 3 1 u6 pre.length (E.ns (E.stp pre)) := hown
      have hb2 : Below w1.heap.size w1 (wr.drewN nq) := below_drewN hb nq
      generalize hw2 : World.drewN _ _ = w2 at *
      clear hw2
      go_wp2
      go_quiet (fail)
      have hownq : (w2.drewN nq).ownsRow w1.heap.size 3 1 u6 pre.length (E.ns (E.stp pre)) := hown2
      have hbq : Below w1.heap.size w1 (w2.drewN nq) := below_drewN hb2 nq
      generalize hwq : World.drewN _ _ = wq at *
      clear hwq
      have hbx := hbq
      go_wp2_with (at_builtin; refine wpList_append_any _ rfl (.tmp 82) (.tmp 84) 50 rfl w1.heap.size 3 i0 _ 1 8 Try.underlying50 hi0 hz0 hz1 hz2 rfl (by decide) u6 _ _ rfl (hownq.alloc (.cells #[.int .i64 1] 3)) _ _ 1 1 [.int .i64 1] rfl (reads_new wq [.int .i64 1] 3) (by simp [Value.oneCell']) (by simp only [maxLen]; omega) (by omega) (by have := hbx.size; simp; omega) ?_; intro v' W2 hown' hgrow hnew; clear hnew)
      have hb2 : Below w1.heap.size w1 W2 := (hbx.alloc hbx.size (.cells #[.int .i64 1] 3)).grown hgrow (by have := hbx.size; simp; omega) (own_below hownq (Nat.le_refl _))
      rw [show E.ns (E.stp pre) ++ [Value.int .i64 1] = E.ns (E.stp (pre ++ [(1, i)])) by simp [E.ns, E.stp], show pre.length + 1 = (pre ++ [(1, i)]).length by simp] at hown'
      have hlen2 : (pre ++ [(1, i)]).length ≤ (i + 1) + (b.length) := by simp; omega
      go_roundw
      case rel => exact ⟨pre ++ [(1, i)], i + 1, b.length, by first | rfl | go_num, by first | rfl | go_num, by omega, by omega, hlen2, Lib.hid (by rw [hx.out, RS.out]; simp), hown', hb2⟩
      case measure => simp [intOf] <;> omega
    · -- the old list is at its end
      have q0 : pre.length ≤ 2000 := by omega
      have q3 : (0 : Int) ≤ (j : Int) := by omega
      have q4 : (j : Int) < (b.length : Int) := by omega
      have s2 : j < b.length := by omega
      have hjb : ((j : Int) == (b.length : Int)) = false := beq_eq_false_iff_ne.2 (by omega)
      have RS := Lib.hid hrs
      clear hrs hbw
      go_wp2
      go_quiet (fail)
      have hown2 : (wr.drewN nq).ownsRow w1.heap.size 3 1 u6 pre.length (E.ns (E.stp pre)) := hown
      have hb2 : Below w1.heap.size w1 (wr.drewN nq) := below_drewN hb nq
      generalize hw2 : World.drewN _ _ = w2 at *
      clear hw2
      go_wp2
      go_quiet (fail)
      have hownq : (w2.drewN nq).ownsRow w1.heap.size 3 1 u6 pre.length (E.ns (E.stp pre)) := hown2
      have hbq : Below w1.heap.size w1 (w2.drewN nq) := below_drewN hb2 nq
      generalize hwq : World.drewN _ _ = wq at *
      clear hwq
      have hbx := hbq
      go_wp2_with (at_builtin; refine wpList_append_any _ rfl (.tmp 82) (.tmp 84) 50 rfl w1.heap.size 3 i0 _ 1 8 Try.underlying50 hi0 hz0 hz1 hz2 rfl (by decide) u6 _ _ rfl (hownq.alloc (.cells #[.int .i64 2] 3)) _ _ 1 1 [.int .i64 2] rfl (reads_new wq [.int .i64 2] 3) (by simp [Value.oneCell']) (by simp only [maxLen]; omega) (by omega) (by have := hbx.size; simp; omega) ?_; intro v' W2 hown' hgrow hnew; clear hnew)
      have hb2 : Below w1.heap.size w1 W2 := (hbx.alloc hbx.size (.cells #[.int .i64 2] 3)).grown hgrow (by have := hbx.size; simp; omega) (own_below hownq (Nat.le_refl _))
      rw [show E.ns (E.stp pre) ++ [Value.int .i64 2] = E.ns (E.stp (pre ++ [(2, a.length)])) by simp [E.ns, E.stp], show pre.length + 1 = (pre ++ [(2, a.length)]).length by simp] at hown'
      have hlen2 : (pre ++ [(2, a.length)]).length ≤ (a.length) + (j + 1) := by simp; omega
      go_roundw
      case rel => exact ⟨pre ++ [(2, a.length)], a.length, j + 1, by first | rfl | go_num, by first | rfl | go_num, by omega, by omega, hlen2, Lib.hid (by rw [hx.out, RS.out]; simp), hown', hb2⟩
      case measure => simp [intOf] <;> omega
    · -- a match
      have q0 : pre.length ≤ 2000 := by omega
      have q1 : (0 : Int) ≤ (i : Int) := by omega
      have q2 : (i : Int) < (a.length : Int) := by omega
      have s1 : i < a.length := by omega
      have q3 : (0 : Int) ≤ (j : Int) := by omega
      have q4 : (j : Int) < (b.length : Int) := by omega
      have s2 : j < b.length := by omega
      have hjb : ((j : Int) == (b.length : Int)) = false := beq_eq_false_iff_ne.2 (by omega)
      obtain ⟨ba, oa, rfl, hba, hca⟩ := (HA.out.below hbw hB).num (by omega)
      obtain ⟨bb, ob, rfl, hbb, hcb⟩ := (HB.out.below hbw hB).num (by omega)
      have x0 := hca i h1
      have y0 := hcb j h2
      rw [← getD_at (d := 0) h1] at x0
      rw [← getD_at (d := 0) h2] at y0
      clear hca hcb
      have RS := Lib.hid hrs
      clear hrs hbw
      rw [he] at x0
      clear he
      generalize b.getD j 0 = y at *
      go_wp2
      go_quiet (fail)
      have hownq : (wr.drewN nq).ownsRow w1.heap.size 3 1 u6 pre.length (E.ns (E.stp pre)) := hown
      have hbq : Below w1.heap.size w1 (wr.drewN nq) := below_drewN hb nq
      generalize hwq : World.drewN _ _ = wq at *
      clear hwq
      have hbx := hbq
      go_wp2_with (at_builtin; refine wpList_append_any _ rfl (.tmp 82) (.tmp 84) 50 rfl w1.heap.size 3 i0 _ 1 8 Try.underlying50 hi0 hz0 hz1 hz2 rfl (by decide) u6 _ _ rfl (hownq.alloc (.cells #[.int .i64 0] 3)) _ _ 1 1 [.int .i64 0] rfl (reads_new wq [.int .i64 0] 3) (by simp [Value.oneCell']) (by simp only [maxLen]; omega) (by omega) (by have := hbx.size; simp; omega) ?_; intro v' W2 hown' hgrow hnew; clear hnew)
      have hb2 : Below w1.heap.size w1 W2 := (hbx.alloc hbx.size (.cells #[.int .i64 0] 3)).grown hgrow (by have := hbx.size; simp; omega) (own_below hownq (Nat.le_refl _))
      rw [show E.ns (E.stp pre) ++ [Value.int .i64 0] = E.ns (E.stp (pre ++ [(0, i)])) by simp [E.ns, E.stp], show pre.length + 1 = (pre ++ [(0, i)]).length by simp] at hown'
      have hlen2 : (pre ++ [(0, i)]).length ≤ (i + 1) + (j + 1) := by simp; omega
      go_roundw
      case rel => exact ⟨pre ++ [(0, i)], i + 1, j + 1, by first | rfl | go_num, by first | rfl | go_num, by omega, by omega, hlen2, Lib.hid (by rw [hx.out, RS.out]; simp), hown', hb2⟩
      case measure => simp [intOf] <;> omega
    · -- a deletion
      have q0 : pre.length ≤ 2000 := by omega
      have q1 : (0 : Int) ≤ (i : Int) := by omega
      have q2 : (i : Int) < (a.length : Int) := by omega
      have s1 : i < a.length := by omega
      have q3 : (0 : Int) ≤ (j : Int) := by omega
      have q4 : (j : Int) < (b.length : Int) := by omega
      have s2 : j < b.length := by omega
      have hjb : ((j : Int) == (b.length : Int)) = false := beq_eq_false_iff_ne.2 (by omega)
      obtain ⟨ba, oa, rfl, hba, hca⟩ := (HA.out.below hbw hB).num (by omega)
      obtain ⟨bb, ob, rfl, hbb, hcb⟩ := (HB.out.below hbw hB).num (by omega)
      have x0 := hca i h1
      have y0 := hcb j h2
      rw [← getD_at (d := 0) h1] at x0
      rw [← getD_at (d := 0) h2] at y0
      clear hca hcb
      have p1 := (hb.cell (p := ⟨w.heap.size, i + 1, none⟩) (by have := HSZ.out; show w.heap.size < _; omega)).trans (HT.out.top.cell (i := i + 1) (by omega))
      have p0 := (hb.cell (p := ⟨w.heap.size, i, none⟩) (by have := HSZ.out; show w.heap.size < _; omega)).trans (HT.out.top.cell (i := i) (by omega))
      have d1 := (hb.cell (p := ⟨w.heap.size + 1 + (a.length - (i + 1)), j, none⟩) (by have := HSZ.out; show w.heap.size + 1 + _ < _; omega)).trans ((HT.out.done (i + 1) (by omega)).cell (i := j) (by omega))
      have d0 := (hb.cell (p := ⟨w.heap.size + 1 + (a.length - i), j + 1, none⟩) (by have := HSZ.out; show w.heap.size + 1 + _ < _; omega)).trans ((HT.out.done i (by omega)).cell (i := j + 1) (by omega))
      simp only [E.top, Nat.zero_le, if_true] at p0 p1
      obtain ⟨Bi, hBi⟩ : ∃ Bi, w.heap.size + 1 + (a.length - i) = Bi := ⟨_, rfl⟩
      obtain ⟨Bn, hBn⟩ : ∃ Bn, w.heap.size + 1 + (a.length - (i + 1)) = Bn := ⟨_, rfl⟩
      rw [hBi] at p0 d0
      rw [hBn] at p1 d1
      have q5 : (i : Int) < (a.length : Int) + 1 := by omega
      have q6 : (i : Int) + 1 < (a.length : Int) + 1 := by omega
      have q7 : (j : Int) < (b.length : Int) + 1 := by omega
      have q8 : (j : Int) + 1 < (b.length : Int) + 1 := by omega
      have q9 : (0 : Int) ≤ (i : Int) + 1 := by omega
      have q10 : (0 : Int) ≤ (j : Int) + 1 := by omega
      have u1 : IntKind.i64.wrap ((i : Int) + 1) = (i : Int) + 1 := by simp [IntKind.wrap, IntKind.bits, IntKind.signed]; omega
      have u2 : IntKind.i64.wrap ((j : Int) + 1) = (j : Int) + 1 := by simp [IntKind.wrap, IntKind.bits, IntKind.signed]; omega
      have u3 : ((i : Int) + 1).toNat = i + 1 := by omega
      have u4 : ((j : Int) + 1).toNat = j + 1 := by omega
      clear hBi hBn
      have RS := Lib.hid hrs
      clear hrs hbw
      have hxy : (a.getD i 0 == b.getD j 0) = false := beq_eq_false_iff_ne.2 he
      have hm : decide (((E.L a b i (j + 1) : Nat) : Int) ≤ ((E.L a b (i + 1) j : Nat) : Int)) = true := decide_eq_true (by omega)
      have hm2 : E.L a b i (j + 1) ≤ E.L a b (i + 1) j := by omega
      clear he hle
      generalize a.getD i 0 = x at *
      generalize b.getD j 0 = y at *
      generalize E.L a b (i + 1) j = v at *
      generalize E.L a b i (j + 1) = u at *
      go_wp2
      go_quiet (fail)
      have hown2 : (wr.drewN nq).ownsRow w1.heap.size 3 1 u6 pre.length (E.ns (E.stp pre)) := hown
      have hb2 : Below w1.heap.size w1 (wr.drewN nq) := below_drewN hb nq
      have x0' : (wr.drewN nq).cell? _ = _ := x0
      have y0' : (wr.drewN nq).cell? _ = _ := y0
      have p0' : (wr.drewN nq).cell? _ = _ := p0
      have p1' : (wr.drewN nq).cell? _ = _ := p1
      have d0' : (wr.drewN nq).cell? _ = _ := d0
      have d1' : (wr.drewN nq).cell? _ = _ := d1
      generalize hw2 : World.drewN _ _ = w2 at *
      clear hw2
      go_wp2
      go_quiet (fail)
      have hownq : (w2.drewN nq).ownsRow w1.heap.size 3 1 u6 pre.length (E.ns (E.stp pre)) := hown2
      have hbq : Below w1.heap.size w1 (w2.drewN nq) := below_drewN hb2 nq
      generalize hwq : World.drewN _ _ = wq at *
      clear hwq
      have hbx := hbq
      go_wp2_with (at_builtin; refine wpList_append_any _ rfl (.tmp 82) (.tmp 84) 50 rfl w1.heap.size 3 i0 _ 1 8 Try.underlying50 hi0 hz0 hz1 hz2 rfl (by decide) u6 _ _ rfl (hownq.alloc (.cells #[.int .i64 1] 3)) _ _ 1 1 [.int .i64 1] rfl (reads_new wq [.int .i64 1] 3) (by simp [Value.oneCell']) (by simp only [maxLen]; omega) (by omega) (by have := hbx.size; simp; omega) ?_; intro v' W2 hown' hgrow hnew; clear hnew)
      have hb2 : Below w1.heap.size w1 W2 := (hbx.alloc hbx.size (.cells #[.int .i64 1] 3)).grown hgrow (by have := hbx.size; simp; omega) (own_below hownq (Nat.le_refl _))
      rw [show E.ns (E.stp pre) ++ [Value.int .i64 1] = E.ns (E.stp (pre ++ [(1, i)])) by simp [E.ns, E.stp], show pre.length + 1 = (pre ++ [(1, i)]).length by simp] at hown'
      have hlen2 : (pre ++ [(1, i)]).length ≤ (i + 1) + (j) := by simp; omega
      go_roundw
      case rel => exact ⟨pre ++ [(1, i)], i + 1, j, by first | rfl | go_num, by first | rfl | go_num, by omega, by omega, hlen2, Lib.hid (by rw [hx.out, RS.out]; simp), hown', hb2⟩
      case measure => simp [intOf] <;> omega
    · -- an insertion
      have q0 : pre.length ≤ 2000 := by omega
      have q1 : (0 : Int) ≤ (i : Int) := by omega
      have q2 : (i : Int) < (a.length : Int) := by omega
      have s1 : i < a.length := by omega
      have q3 : (0 : Int) ≤ (j : Int) := by omega
      have q4 : (j : Int) < (b.length : Int) := by omega
      have s2 : j < b.length := by omega
      have hjb : ((j : Int) == (b.length : Int)) = false := beq_eq_false_iff_ne.2 (by omega)
      obtain ⟨ba, oa, rfl, hba, hca⟩ := (HA.out.below hbw hB).num (by omega)
      obtain ⟨bb, ob, rfl, hbb, hcb⟩ := (HB.out.below hbw hB).num (by omega)
      have x0 := hca i h1
      have y0 := hcb j h2
      rw [← getD_at (d := 0) h1] at x0
      rw [← getD_at (d := 0) h2] at y0
      clear hca hcb
      have p1 := (hb.cell (p := ⟨w.heap.size, i + 1, none⟩) (by have := HSZ.out; show w.heap.size < _; omega)).trans (HT.out.top.cell (i := i + 1) (by omega))
      have p0 := (hb.cell (p := ⟨w.heap.size, i, none⟩) (by have := HSZ.out; show w.heap.size < _; omega)).trans (HT.out.top.cell (i := i) (by omega))
      have d1 := (hb.cell (p := ⟨w.heap.size + 1 + (a.length - (i + 1)), j, none⟩) (by have := HSZ.out; show w.heap.size + 1 + _ < _; omega)).trans ((HT.out.done (i + 1) (by omega)).cell (i := j) (by omega))
      have d0 := (hb.cell (p := ⟨w.heap.size + 1 + (a.length - i), j + 1, none⟩) (by have := HSZ.out; show w.heap.size + 1 + _ < _; omega)).trans ((HT.out.done i (by omega)).cell (i := j + 1) (by omega))
      simp only [E.top, Nat.zero_le, if_true] at p0 p1
      obtain ⟨Bi, hBi⟩ : ∃ Bi, w.heap.size + 1 + (a.length - i) = Bi := ⟨_, rfl⟩
      obtain ⟨Bn, hBn⟩ : ∃ Bn, w.heap.size + 1 + (a.length - (i + 1)) = Bn := ⟨_, rfl⟩
      rw [hBi] at p0 d0
      rw [hBn] at p1 d1
      have q5 : (i : Int) < (a.length : Int) + 1 := by omega
      have q6 : (i : Int) + 1 < (a.length : Int) + 1 := by omega
      have q7 : (j : Int) < (b.length : Int) + 1 := by omega
      have q8 : (j : Int) + 1 < (b.length : Int) + 1 := by omega
      have q9 : (0 : Int) ≤ (i : Int) + 1 := by omega
      have q10 : (0 : Int) ≤ (j : Int) + 1 := by omega
      have u1 : IntKind.i64.wrap ((i : Int) + 1) = (i : Int) + 1 := by simp [IntKind.wrap, IntKind.bits, IntKind.signed]; omega
      have u2 : IntKind.i64.wrap ((j : Int) + 1) = (j : Int) + 1 := by simp [IntKind.wrap, IntKind.bits, IntKind.signed]; omega
      have u3 : ((i : Int) + 1).toNat = i + 1 := by omega
      have u4 : ((j : Int) + 1).toNat = j + 1 := by omega
      clear hBi hBn
      have RS := Lib.hid hrs
      clear hrs hbw
      have hxy : (a.getD i 0 == b.getD j 0) = false := beq_eq_false_iff_ne.2 he
      have hm : decide (((E.L a b i (j + 1) : Nat) : Int) ≤ ((E.L a b (i + 1) j : Nat) : Int)) = false := decide_eq_false (by omega)
      have hm2 : ¬ E.L a b i (j + 1) ≤ E.L a b (i + 1) j := by omega
      clear he hle
      generalize a.getD i 0 = x at *
      generalize b.getD j 0 = y at *
      generalize E.L a b (i + 1) j = v at *
      generalize E.L a b i (j + 1) = u at *
      go_wp2
      go_quiet (fail)
      have hown2 : (wr.drewN nq).ownsRow w1.heap.size 3 1 u6 pre.length (E.ns (E.stp pre)) := hown
      have hb2 : Below w1.heap.size w1 (wr.drewN nq) := below_drewN hb nq
      have x0' : (wr.drewN nq).cell? _ = _ := x0
      have y0' : (wr.drewN nq).cell? _ = _ := y0
      have p0' : (wr.drewN nq).cell? _ = _ := p0
      have p1' : (wr.drewN nq).cell? _ = _ := p1
      have d0' : (wr.drewN nq).cell? _ = _ := d0
      have d1' : (wr.drewN nq).cell? _ = _ := d1
      generalize hw2 : World.drewN _ _ = w2 at *
      clear hw2
      go_wp2
      go_quiet (fail)
      have hownq : (w2.drewN nq).ownsRow w1.heap.size 3 1 u6 pre.length (E.ns (E.stp pre)) := hown2
      have hbq : Below w1.heap.size w1 (w2.drewN nq) := below_drewN hb2 nq
      generalize hwq : World.drewN _ _ = wq at *
      clear hwq
      have hbx := hbq
      go_wp2_with (at_builtin; refine wpList_append_any _ rfl (.tmp 82) (.tmp 84) 50 rfl w1.heap.size 3 i0 _ 1 8 Try.underlying50 hi0 hz0 hz1 hz2 rfl (by decide) u6 _ _ rfl (hownq.alloc (.cells #[.int .i64 2] 3)) _ _ 1 1 [.int .i64 2] rfl (reads_new wq [.int .i64 2] 3) (by simp [Value.oneCell']) (by simp only [maxLen]; omega) (by omega) (by have := hbx.size; simp; omega) ?_; intro v' W2 hown' hgrow hnew; clear hnew)
      have hb2 : Below w1.heap.size w1 W2 := (hbx.alloc hbx.size (.cells #[.int .i64 2] 3)).grown hgrow (by have := hbx.size; simp; omega) (own_below hownq (Nat.le_refl _))
      rw [show E.ns (E.stp pre) ++ [Value.int .i64 2] = E.ns (E.stp (pre ++ [(2, i)])) by simp [E.ns, E.stp], show pre.length + 1 = (pre ++ [(2, i)]).length by simp] at hown'
      have hlen2 : (pre ++ [(2, i)]).length ≤ (i) + (j + 1) := by simp; omega
      go_roundw
      case rel => exact ⟨pre ++ [(2, i)], i, j + 1, by first | rfl | go_num, by first | rfl | go_num, by omega, by omega, hlen2, Lib.hid (by rw [hx.out, RS.out]; simp), hown', hb2⟩
      case measure => simp [intOf] <;> omega
end Go.Proofs.Yteakiielcmgkeaa
