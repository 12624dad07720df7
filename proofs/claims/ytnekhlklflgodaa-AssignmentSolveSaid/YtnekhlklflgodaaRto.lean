/-
  The walks of layer 29: the reference's Total. By an AI agent.
-/
import Derived.Test.YtnekhlklflgodaaRch
namespace Go.Proofs.Ytnekhlklflgodaa
open Go.RowKit

set_option maxRecDepth 100000 in
set_option maxHeartbeats 8000000 in
theorem reftotal_any (B : Nat) (Ad Al : Option Addr) (cp cl : Nat) (rs : List (Option Addr × Nat × List Int)) (l : List Int) (w : World) (h : C.Mx w B Ad rs) (hr : Reads w B 1 Al l.length (C.ns l)) (hll : l.length ≤ maxLen) :
    Calls Try.prog 14 #[.slice Ad rs.length cp, .slice Al l.length cl] w fun e w' => e = .returned (.tuple #[.int .i64 (C.totV (C.mt rs) l).1, .int .i64 (C.totV (C.mt rs) l).2]) ∧ ∃ m, w' = w.drewN m := by
  have hl : (C.mt rs).length = rs.length := by simp [C.mt]
  have CK := Lib.hid (refcheck_any B Ad cp rs w h)
  have hrl := h.len
  unfold maxLen at hll hrl
  by_cases hz : C.chkV (C.mt rs) = 0
  · have hq := C.chk_sq hz
    have hn40 : rs.length ≤ 40 := by have := hq.1; omega
    rw [hz] at CK
    by_cases hlen : l.length = rs.length
    · have hlen1 : ((l.length : Int) != (rs.length : Int)) = false := by simp [hlen]
      have HT : Hid (C.totV (C.mt rs) l = if C.okL rs.length l then (C.sumP (C.mt rs) l l.length, 0) else (0, 1)) := Lib.hid (by unfold C.totV; rw [if_neg (by simp [hz]), if_neg (by simp [hlen, hl]), hl])
      have HSB := Lib.hid (C.sum_bound hq (l := l) (fun t _ => C.ent_range hq l t))
      have HEN := Lib.hid (C.ent_range hq l)
      have HRL : Hid (∀ i (hi : i < rs.length), rs[i].2.2.length = rs.length) := Lib.hid (fun i hi => by rw [← hl]; exact hq.2.1 _ (List.mem_map.2 ⟨rs[i], List.getElem_mem hi, rfl⟩))
      have HM := Lib.hid h
      have HR := Lib.hid hr
      have HLN := Lib.hid hlen
      have g1 : l.length ≤ rs.length := by omega
      have g2 : rs.length ≤ l.length := by omega
      clear h hr hz hq hl hlen
      go_enter Try.func14, Try.ntmps14
      go_wp2_with fail
      refine CK.out.mono ?_
      rintro e' w1 ⟨rfl, rfl⟩
      clear CK
      go_wp2_with fail
      go_loopw [7, 8] (fun v7 v8 wr => ∃ i m : Nat, v8 = .int .i64 i ∧ i ≤ l.length ∧ v7 = .int .i64 (C.sumP (C.mt rs) l i) ∧ Hid (C.OkP rs.length l i) ∧ wr = w.drewN m) (fun _ v8 _ => l.length - (intOf v8).toNat)
      case atStart => exact ⟨0, 0, rfl, by omega, rfl, Lib.hid ⟨by simp, by simp⟩, rfl⟩
      case round =>
        obtain ⟨i, m, rfl, hi, rfl, hok, rfl⟩ := hrel
        by_cases hlt : i < l.length
        · obtain ⟨b2, o2, rfl, _, h2⟩ := C.nums_at HR.out (by omega)
          have x0 := h2 i hlt
          have q1 : (0 : Int) ≤ (i : Int) := by omega
          have q2 : (i : Int) < (l.length : Int) := by omega
          have q2' : (i : Int) < (rs.length : Int) := by omega
          have CELL : Hid (∀ j (hj : j < l.length), w.cell? ⟨b2, o2 + j, none⟩ = some (.int .i64 l[j])) := Lib.hid h2
          clear h2
          by_cases c0 : 0 ≤ l[i] ∧ l[i] < (rs.length : Int)
          · obtain ⟨x, hx⟩ : ∃ x : Nat, l[i] = x := ⟨l[i].toNat, by omega⟩
            have hxn : x < rs.length := by omega
            have t1 : decide ((x : Int) < 0) = false := decide_eq_false (by omega)
            have t2 : decide ((l.length : Int) ≤ (x : Int)) = false := decide_eq_false (by omega)
            have t3 : decide (l.length ≤ x) = false := decide_eq_false (by omega)
            have q3 : (0 : Int) ≤ (x : Int) := by omega
            have q4 : (x : Int) < (rs.length : Int) := by omega
            have HX := Lib.hid hx
            rw [hx] at x0
            clear hx c0
            go_wp2_with fail
            go_loopw [9] (fun v9 wr => ∃ j m : Nat, v9 = .int .i64 j ∧ j ≤ i ∧ Hid (∀ s (_ : s < j) (hs : s < l.length), l[s] ≠ (x : Int)) ∧ wr = w.drewN m) (fun v9 _ => i - (intOf v9).toNat)
            case atStart => exact ⟨0, m, rfl, by omega, Lib.hid (fun s h => absurd h (by omega)), rfl⟩
            case round =>
              obtain ⟨j, m, rfl, hj, hpre, rfl⟩ := hrel
              by_cases hjt : j < i
              · have hjl : j < l.length := by omega
                have y0 := CELL.out j hjl
                have q5 : (0 : Int) ≤ (j : Int) := by omega
                have q6 : (j : Int) < (l.length : Int) := by omega
                by_cases he : l[j] = (x : Int)
                · have hm : l[i] ∈ l.take i := by rw [HX.out, ← he]; exact List.mem_iff_getElem.2 ⟨j, by simp; omega, by simp⟩
                  have HO := Lib.hid (C.ok_twice (n := rs.length) hlt hm)
                  have hv : Hid (C.totV (C.mt rs) l = (0, 1)) := Lib.hid (by rw [HT.out, HO.out]; rfl)
                  have hne : ((x : Int) == (x : Int)) = true := beq_self_eq_true _
                  rw [he] at y0
                  clear hok HO hm he hpre
                  go_wp2_with fail
                  go_quiet (fail)
                  go_wp2_with fail
                  go_ret2
                  exact ⟨by rw [hv.out]; rfl, m + nq, by simp⟩
                · have hpre2 : Hid (∀ s (_ : s < j + 1) (hs : s < l.length), l[s] ≠ (x : Int)) := Lib.hid (fun s h hs => by
                    by_cases e : s = j
                    · subst e; exact he
                    · exact hpre.out s (by omega) hs)
                  have hne : (l[j] == (x : Int)) = false := beq_eq_false_iff_ne.2 he
                  clear he hpre
                  generalize l[j] = yj at *
                  go_wp2_with fail
                  go_quiet (fail)
                  go_wp2
                  go_roundw
                  case rel => exact ⟨j + 1, m + nq, by go_num, by omega, hpre2, by simp⟩
                  case measure => simp [intOf] <;> omega
              · have q5 : decide ((j : Int) < (i : Int)) = false := decide_eq_false (by omega)
                have hnm : l[i] ∉ l.take i := fun hm => by
                  obtain ⟨s, hs, e⟩ := List.mem_iff_getElem.1 hm
                  simp only [List.length_take] at hs
                  rw [List.getElem_take] at e
                  exact hpre.out s (by omega) (by omega) (by rw [e]; exact HX.out)
                have OK2 := Lib.hid (C.ok_step hok.out hlt (by rw [HX.out]; exact ⟨q3, q4⟩) hnm)
                have hir : i < rs.length := by omega
                have hxr : x < rs[i].2.2.length := by rw [HRL.out i hir]; exact hxn
                have HS : Hid (C.sumP (C.mt rs) l (i + 1) = C.sumP (C.mt rs) l i + rs[i].2.2[x]) := Lib.hid (by
                  rw [C.sumP_succ]
                  congr 1
                  have e1 : l.getD i 0 = (x : Int) := by simp [List.getD, hlt, HX.out]
                  have e2 : (C.mt rs).getD i [] = rs[i].2.2 := by simp [C.mt, List.getD, hir]
                  unfold C.ent
                  rw [e1, e2, Int.toNat_natCast]
                  simp [List.getD, hxr])
                have hE : 0 ≤ rs[i].2.2[x] ∧ rs[i].2.2[x] ≤ 1000000 := by
                  have h1 := HEN.out i
                  have h2 := HS.out
                  rw [C.sumP_succ] at h2
                  omega
                have hS := HSB.out i hi
                obtain ⟨b1, o1, rfl, _, h1⟩ := HM.out.at_ (by omega)
                have y0 := h1 i hir
                obtain ⟨b3, o3, hA, _, h3⟩ := C.nums_at (HM.out.each rs[i] (List.getElem_mem hir)).1 (by omega)
                have z0 := h3 x hxr
                rw [hA] at y0
                have q6 : (x : Int) < (rs[i].2.2.length : Int) := by omega
                clear hok hpre hnm h1 h3 hA
                generalize rs[i].2.2[x] = en at *
                generalize rs[i].2.2.length = nl at *
                generalize rs[i].2.1 = cr at *
                obtain ⟨sm, hsm⟩ : ∃ sm, C.sumP (C.mt rs) l i = sm := ⟨_, rfl⟩
                rw [hsm] at HS hS ⊢
                clear hsm
                have hi40 : (i : Int) ≤ 40 := by omega
                have u1 : IntKind.i64.wrap (sm + en) = sm + en := by simp [IntKind.wrap, IntKind.bits, IntKind.signed]; omega
                go_wp2_with fail
                go_quiet (fail)
                go_wp2
                go_roundw
                case rel => exact ⟨i + 1, m + nq, by go_num, hlt, by rw [HS.out], OK2, by simp⟩
                case measure => simp [intOf] <;> omega
          · have HO := Lib.hid (C.ok_out (n := rs.length) hlt c0)
            have hv : Hid (C.totV (C.mt rs) l = (0, 1)) := Lib.hid (by rw [HT.out, HO.out]; rfl)
            clear hok HO CELL
            generalize l[i] = x at *
            by_cases c2 : x < 0
            · have t1 : decide (x < 0) = true := decide_eq_true c2
              go_wp2_with fail
              go_ret2
              exact ⟨by rw [hv.out]; rfl, m, rfl⟩
            · have t1 : decide (x < 0) = false := decide_eq_false c2
              have t2 : decide ((l.length : Int) ≤ x) = true := decide_eq_true (by omega)
              go_wp2_with fail
              go_ret2
              exact ⟨by rw [hv.out]; rfl, m, rfl⟩
        · have hie : i = l.length := by omega
          have q5 : decide ((i : Int) < (l.length : Int)) = false := decide_eq_false (by omega)
          have hv : Hid (C.totV (C.mt rs) l = (C.sumP (C.mt rs) l i, 0)) := Lib.hid (by rw [HT.out, C.ok_end (hie ▸ hok.out), hie]; rfl)
          clear hok hie
          go_wp2_with fail
          go_ret2
          exact ⟨by rw [hv.out]; rfl, m, rfl⟩
    · have hlen1 : ((l.length : Int) != (rs.length : Int)) = true := bne_iff_ne.2 (by omega)
      have hv : Hid (C.totV (C.mt rs) l = (0, 1)) := Lib.hid (by unfold C.totV; rw [if_neg (by simp [hz]), if_pos (by rw [hl]; exact hlen)])
      clear h hr hz hq hl
      go_enter Try.func14, Try.ntmps14
      go_wp2_with fail
      refine CK.out.mono ?_
      rintro e' w1 ⟨rfl, rfl⟩
      go_wp2_with fail
      go_ret2
      exact ⟨by rw [hv.out]; rfl, 0, rfl⟩
  · have hzn : (C.chkV (C.mt rs) != 0) = true := bne_iff_ne.2 hz
    have hv : Hid (C.totV (C.mt rs) l = (0, C.chkV (C.mt rs))) := Lib.hid (by unfold C.totV; rw [if_pos hz])
    clear h hr hz hl
    generalize C.chkV (C.mt rs) = z at *
    go_enter Try.func14, Try.ntmps14
    go_wp2_with fail
    refine CK.out.mono ?_
    rintro e' w1 ⟨rfl, rfl⟩
    go_wp2_with fail
    go_ret2
    exact ⟨by rw [hv.out]; rfl, 0, rfl⟩
end Go.Proofs.Ytnekhlklflgodaa
