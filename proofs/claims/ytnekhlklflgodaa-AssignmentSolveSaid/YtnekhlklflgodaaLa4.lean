/-
  The statements of layer 29: AssignmentPermutation. By an AI agent.
-/
import Derived.Lib.SliceRun
import Derived.Laws.CopyOwn
import Derived.Test.YtnekhlklflgodaaAwk
namespace Go.Proofs.Ytnekhlklflgodaa
open Go.RowKit

theorem C.asg_get (n : Nat) (N : Nat → Nat) {i : Nat} (h : i < (C.asg n N).length) : (C.asg n N)[i] = ((N (i + 1) : Nat) : Int) - 1 := by simp [C.asg]
theorem C.asg_ok {n : Nat} {N : Nat → Nat} (h : A.Pf n N) : C.okL n (C.asg n N) = true := by
  refine decide_eq_true ⟨fun x hx => ?_, ?_⟩
  · simp only [C.asg, List.mem_map, List.mem_range] at hx
    obtain ⟨t, ht, rfl⟩ := hx
    have := h.rg (t + 1) (by omega) (by omega)
    omega
  · unfold C.asg
    rw [List.nodup_iff_pairwise_ne, List.pairwise_map]
    refine List.Pairwise.imp_of_mem ?_ (List.nodup_iff_pairwise_ne.1 List.nodup_range)
    intro a b ha hb hab e
    have h1 := h.rg (a + 1) (by omega) (by have := List.mem_range.1 ha; omega)
    have h2 := h.rg (b + 1) (by omega) (by have := List.mem_range.1 hb; omega)
    have := h.inj (a + 1) (b + 1) (by omega) (by have := List.mem_range.1 ha; omega) (by omega) (by have := List.mem_range.1 hb; omega) (by omega)
    omega
theorem C.asg_tot {m : List (List Int)} {N : Nat → Nat} (hq : C.Sq m) (h : A.Pf m.length N) : C.totV m (C.asg m.length N) = (C.sumP m (C.asg m.length N) m.length, 0) := by
  unfold C.totV
  rw [if_neg (by simp [C.chk_of_sq hq]), if_neg (by simp [C.asg_len]), C.asg_ok h, C.asg_len]
  rfl
theorem C.asg_ent {m : List (List Int)} {n : Nat} (N : Nat → Nat) {t : Nat} (ht : t < n) : C.ent m (C.asg n N) t = C.cst m (t + 1) (N (t + 1)) := by
  unfold C.ent C.cst
  have e : (C.asg n N).getD t 0 = ((N (t + 1) : Nat) : Int) - 1 := by simp [C.asg, List.getD, ht]
  rw [e]
  congr 1
  omega
theorem C.asg_sum {m : List (List Int)} {n : Nat} (N : Nat → Nat) : C.sumP m (C.asg n N) n = A.tot n (C.cst m) N := by
  unfold C.sumP A.tot A.nums
  rw [show List.range' 1 n = (List.range n).map (· + 1) from by
    rw [List.range_eq_range', show (fun x : Nat => x + 1) = fun x => 1 + x from by funext x; omega, List.map_add_range'], List.map_map]
  congr 1
  exact List.map_congr_left fun t ht => C.asg_ent N (List.mem_range.1 ht)
theorem infoBool : (Try.prog.info? 4).map (fun i => (i.zero, i.size, i.bytes)) = some (some (.bool false), 1, 1) := by kernel_rfl
def C.bl (n : Nat) (f : Nat → Bool) : List Value := (List.range n).map fun t => .bool (f t)
theorem C.bl_set (n : Nat) (f : Nat → Bool) {j : Nat} (h : j < n) : (C.bl n f).set j (.bool true) = C.bl n (A.upd f j true) := by
  refine List.ext_getElem (by simp [C.bl]) fun i h1 h2 => ?_
  simp only [List.getElem_set, C.bl, List.getElem_map, List.getElem_range, A.upd]
  by_cases e : j = i
  · subst e; simp
  · rw [if_neg e, if_neg (Ne.symm e)]
theorem C.bl_zero (n : Nat) : (madeCells #[Value.bool false] (n * 1)).toList = C.bl n (fun _ => false) := by
  rw [Nat.mul_one, toList_madeCells_one]
  refine List.ext_getElem (by simp [C.bl]) fun i h1 h2 => ?_
  simp [C.bl]
set_option maxRecDepth 100000 in
set_option maxHeartbeats 16000000 in
theorem permlaw_any (Al : Option Addr) (cl : Nat) (l : List Int) (x : Int) (w : World) (hr : Reads w w.heap.size 1 Al l.length (C.ns l)) (_ : ∀ z ∈ l, (Lit.int .i64 z).wf = true) (hy : l.length ≤ 17592186043904) (hx0 : 0 ≤ x) (hx1 : x ≤ 255) :
    Calls Try.prog 4 #[.slice Al l.length cl, .int .u8 x] w fun e w' => e = .returned (.bool true) ∧ Below w.heap.size w w' := by
  obtain ⟨s, rfl⟩ : ∃ s : Nat, x = s := ⟨x.toNat, by omega⟩
  obtain ⟨n, hn⟩ : ∃ n : Nat, s % 13 = n := ⟨_, rfl⟩
  have hn12 : n < 13 := by omega
  have us : ((s : Int)) % 13 = (n : Int) := by omega
  have uc : IntKind.i64.wrap (s : Int) = (s : Int) := by simp [IntKind.wrap, IntKind.bits, IntKind.signed]; omega
  have HN := Lib.hid hn
  clear hn
  by_cases h150 : 150 < l.length
  · go_enter Try.func4, Try.ntmps4
    go_wp2_with fail
    refine (awake_any _).mono ?_
    rintro e' w9 ⟨rfl, b9⟩
    go_wp2_with fail
    go_ret
    exact ⟨rfl, b9⟩
  · have h150' : decide ((150 : Int) < (l.length : Int)) = false := decide_eq_false (by omega)
    have h150'' : decide (150 < l.length) = false := decide_eq_false h150
    have MT := Lib.hid (matrix_any w.heap.size Al cl l n 1000 w hr (Nat.le_refl _) (by omega) (by omega) (by omega))
    have SQ := Lib.hid (C.mtx_sq l (mo := 1000) (by omega) (by omega) (n := n) (by omega))
    clear hr h150
    go_enter Try.func4, Try.ntmps4
    go_wp2_with fail
    refine MT.out.mono ?_
    rintro e' w1 ⟨v, rs, rfl, hom, hmt, b1⟩
    clear MT
    have hl : rs.length = n := by have := congrArg List.length hmt; simpa [C.mt, C.mtx_len] using this
    have hq : C.Sq (C.mt rs) := by rw [hmt]; exact SQ.out
    obtain ⟨Ad, cp, rfl, hmx⟩ := hom.mx (by simp only [maxLen]; omega) (fun r hr => by
      have := hq.2.1 _ (List.mem_map.2 ⟨r, hr, rfl⟩)
      have h2 := hq.1
      simp only [maxLen]
      omega)
    have hlm : (C.mt rs).length = n := by simp [C.mt, hl]
    have SV := Solve_any w1.heap.size Ad cp rs w1 hmx (Nat.le_refl _)
    unfold C.SolveOut at SV
    rw [hlm, hl] at SV
    have SV := Lib.hid SV
    have CK := Lib.hid (C.chk_of_sq hq)
    have HQ := Lib.hid hq
    have HMX := Lib.hid hmx
    have B1 := Lib.hid b1
    have HLM := Lib.hid hlm
    have HL := Lib.hid hl
    rw [hl]
    clear hom hmt hmx hq b1 hlm hl SQ
    go_wp2_with fail
    refine SV.out.mono ?_
    rintro e' w2 ⟨b2, hres⟩
    rcases hres with ⟨hz, _⟩ | ⟨_, Ar, ca, N, rfl, hrd, hbest⟩
    · exact absurd CK.out hz
    have BST := Lib.hid hbest
    have PF := Lib.hid hbest.pf
    have MX2 := Lib.hid (HMX.out.below b2 (Nat.le_refl _))
    have RD := Lib.hid hrd
    have B2 := Lib.hid (B1.out.trans (b2.mono B1.out.size))
    have hw12 := b2.size
    have hw01 := B1.out.size
    clear SV hbest hrd b2 B1 HMX
    have TT : Hid (∀ w', Below w2.heap.size w2 w' → Calls Try.prog 13 #[.slice Ad n cp, .slice Ar n ca] w' fun e w'' => e = .returned (.tuple #[.int .i64 (C.sumP (C.mt rs) (C.asg n N) n), .int .i64 0]) ∧ Below w'.heap.size w' w'') := Lib.hid (fun w' hb => by
      have h := Total_any w2.heap.size Ad Ar cp ca rs (C.asg n N) w' ((MX2.out.more hw12).below hb (Nat.le_refl _)) (by rw [C.asg_len]; exact RD.out.below hb (Nat.le_refl _)) (by rw [C.asg_len]; simp only [maxLen]; omega) hb.size
      rw [C.asg_len, HL.out] at h
      have e := C.asg_tot (m := C.mt rs) (N := N) HQ.out (by rw [HLM.out]; exact PF.out)
      rw [HLM.out] at e
      rw [e] at h
      exact h)
    have HSB : Hid (∀ i, i ≤ n → 0 ≤ C.sumP (C.mt rs) (C.asg n N) i ∧ C.sumP (C.mt rs) (C.asg n N) i ≤ i * 1000000) := Lib.hid (fun i hi => C.sum_bound HQ.out (l := C.asg n N) (fun t _ => C.ent_range HQ.out _ t) i (by rw [C.asg_len]; exact hi))
    have HEN := Lib.hid (C.ent_range HQ.out (C.asg n N))
    have HRL : Hid (∀ i (hi : i < rs.length), rs[i].2.2.length = n) := Lib.hid (fun i hi => by rw [← HLM.out]; exact HQ.out.2.1 _ (List.mem_map.2 ⟨rs[i], List.getElem_mem hi, rfl⟩))
    obtain ⟨i0, hi0, hz0, hz1, hz2⟩ := info_parts infoBool
    go_wp2_with (refine wpList_make_full _ rfl (.tmp 38) (.tmp 38) 33 rfl w2.heap.size 4 i0 (.bool false) 1 Try.underlying33 hi0 hz0 hz1 .i64 .i64 _ _ n rfl rfl rfl rfl (by rw [hz2]; omega) (by unfold maxLen; omega) (Nat.le_refl _) ?_; intro w3 hown3 hg3)
    rw [show (madeCells (Value.bool false).cells (n * 1)).toList = C.bl n (fun _ => false) from C.bl_zero n] at hown3
    obtain ⟨Au, cu, hvu, -⟩ := own_reads hown3
    have U0 := Lib.hid hown3
    have B3 : Hid (Below w2.heap.size w2 w3) := Lib.hid ((Below.refl _ w2).grown hg3 (Nat.le_refl _) (fun k hk => by cases hk))
    clear hg3 hown3 hvu
    obtain ⟨Ub, hUb⟩ : ∃ Ub, w2.heap.size = Ub := ⟨_, rfl⟩
    have hbz : C.usd (C.asg n N) 0 = fun _ => false := by funext j; simp [C.usd]
    rw [← hbz] at U0
    have B3 : Hid (Below Ub w2 w3) := by rw [← hUb]; exact B3
    have TT : Hid (∀ w', Below Ub w2 w' → Calls Try.prog 13 #[.slice Ad n cp, .slice Ar n ca] w' fun e w'' => e = .returned (.tuple #[.int .i64 (C.sumP (C.mt rs) (C.asg n N) n), .int .i64 0]) ∧ Below w'.heap.size w' w'') := by rw [← hUb]; exact TT
    have MX3 : Hid (C.Mx w2 Ub Ad rs) := by rw [← hUb]; exact Lib.hid (MX2.out.more hw12)
    have RD3 : Hid (Reads w2 Ub 1 Ar (C.asg n N).length (C.ns (C.asg n N))) := by rw [← hUb, C.asg_len]; exact RD
    have U0 : Hid (w3.ownsRow Ub 4 1 (.slice (some ⟨Ub, 0, none⟩) n n) n (C.bl n (C.usd (C.asg n N) 0))) := by rw [← hUb]; exact U0
    have hub : w2.heap.size ≤ Ub := Nat.le_of_eq hUb
    have hub2 : Ub ≤ w2.heap.size := Nat.le_of_eq hUb.symm
    have LA := Lib.hid (C.asg_len n N)
    rw [hUb]
    clear hUb hbz MX2 RD
    go_wp2_with fail
    go_loopw [10, 42] (fun v10 v42 wr => ∃ i : Nat, v42 = .int .i64 i ∧ i ≤ n ∧ v10 = .int .i64 (C.sumP (C.mt rs) (C.asg n N) i) ∧ Hid (wr.ownsRow Ub 4 1 (.slice (some ⟨Ub, 0, none⟩) n n) n (C.bl n (C.usd (C.asg n N) i))) ∧ Hid (Below Ub w2 wr)) (fun _ v42 _ => n - (intOf v42).toNat)
    case atStart => exact ⟨0, rfl, by omega, rfl, U0, B3⟩
    case round =>
      clear U0 B3
      obtain ⟨i, rfl, hi, rfl, hu, hbl⟩ := hrel
      by_cases hlt : i < n
      · have hil : i < (C.asg n N).length := by rw [LA.out]; exact hlt
        obtain ⟨b2, o2, rfl, hb2, h2⟩ := C.nums_at RD3.out (by omega)
        have x0 := (hbl.out.cell (p := ⟨b2, o2 + i, none⟩) hb2).trans (h2 i hil)
        have hrg := PF.out.rg (i + 1) (by omega) (by omega)
        obtain ⟨x, hx⟩ : ∃ x : Nat, (C.asg n N)[i] = x := ⟨N (i + 1) - 1, by rw [C.asg_get]; omega⟩
        have hxn : x < n := by rw [C.asg_get] at hx; omega
        have hus : C.usd (C.asg n N) i x = false := decide_eq_false (fun hm => by
          have hok := of_decide_eq_true (C.asg_ok PF.out)
          have hnd := hok.2
          rw [← List.take_append_drop i (C.asg n N), List.nodup_append] at hnd
          refine hnd.2.2 _ hm (x : Int) ?_ rfl
          rw [List.drop_eq_getElem_cons hil, hx]
          exact List.mem_cons_self)
        have xu := (hu.out.cellAt x (by omega)).trans (show (C.bl n (C.usd (C.asg n N) i))[x]? = some (.bool (C.usd (C.asg n N) i x)) from by simp [C.bl, hxn])
        have fu := hu.out.frozenAt x
        have q1 : (0 : Int) ≤ (i : Int) := by omega
        have q2 : (i : Int) < (n : Int) := by omega
        have q3 : (0 : Int) ≤ (x : Int) := by omega
        have q4 : (x : Int) < (n : Int) := by omega
        have q5 : decide ((x : Int) < 0) = false := decide_eq_false (by omega)
        have q6 : decide ((n : Int) ≤ (x : Int)) = false := decide_eq_false (by omega)
        have q7 : decide (n ≤ x) = false := decide_eq_false (by omega)
        have U2 : Hid (World.ownsRow (World.setCell _ ⟨Ub, x, none⟩ (.bool true)) Ub 4 1 (.slice (some ⟨Ub, 0, none⟩) n n) n (C.bl n (C.usd (C.asg n N) (i + 1)))) := Lib.hid (by
          have := (hu.out.stored x (.bool true)).1
          rw [C.bl_set _ _ hxn, C.usd_step hil hx] at this
          exact this)
        have hir : i < rs.length := by rw [HL.out]; exact hlt
        have hxr : x < rs[i].2.2.length := by rw [HRL.out i hir]; exact hxn
        have HS : Hid (C.sumP (C.mt rs) (C.asg n N) (i + 1) = C.sumP (C.mt rs) (C.asg n N) i + rs[i].2.2[x]) := Lib.hid (by
          rw [C.sumP_succ]
          congr 1
          have e1 : (C.asg n N).getD i 0 = (x : Int) := by simp [List.getD, hil, hx]
          have e2 : (C.mt rs).getD i [] = rs[i].2.2 := by simp [C.mt, List.getD, hir]
          unfold C.ent
          rw [e1, e2, Int.toNat_natCast]
          simp [List.getD, hxr])
        have hE : 0 ≤ rs[i].2.2[x] ∧ rs[i].2.2[x] ≤ 1000000 := by
          have h1 := HEN.out i
          have h2 := HS.out
          rw [C.sumP_succ] at h2
          omega
        have hS := HSB.out i hi
        obtain ⟨b1, o1, rfl, hb1, h1⟩ := MX3.out.at_ (by omega)
        have y0 := (hbl.out.cell (p := ⟨b1, o1 + i, none⟩) hb1).trans (h1 i hir)
        obtain ⟨b3, o3, hA, hb3, h3⟩ := C.nums_at (MX3.out.each rs[i] (List.getElem_mem hir)).1 (by omega)
        have z0 := (hbl.out.cell (p := ⟨b3, o3 + x, none⟩) hb3).trans (h3 x hxr)
        rw [hA] at y0
        rw [hus] at xu
        rw [hx] at x0
        have B5 : Hid (Below Ub w2 (World.setCell _ ⟨Ub, x, none⟩ (.bool true))) := Lib.hid (hbl.out.setCell (Nat.le_refl _) _)
        have q8 : (x : Int) < (rs[i].2.2.length : Int) := by omega
        have q9 : (i : Int) < 13 := by omega
        have hn1 : b1 ≠ Ub := by omega
        have hn3 : b3 ≠ Ub := by omega
        clear hu hbl hus hx h1 h2 h3 hA hrg
        generalize rs[i].2.2[x] = en at *
        generalize rs[i].2.2.length = nl at *
        generalize rs[i].2.1 = cr at *
        generalize C.sumP (C.mt rs) (C.asg n N) i = sm at *
        have u1 : IntKind.i64.wrap (sm + en) = sm + en := by simp [IntKind.wrap, IntKind.bits, IntKind.signed]; omega
        go_wp2
        go_roundw
        case rel => exact ⟨i + 1, by go_num, hlt, by rw [HS.out], U2, B5⟩
        case measure => simp [intOf] <;> omega
      · have hie : i = n := by omega
        have TW := Lib.hid (TT.out _ hbl.out)
        have BW : Hid (Below w.heap.size w _) := Lib.hid (B2.out.trans (hbl.out.mono (Nat.le_trans B2.out.size hub)))
        have hdi : decide ((i : Int) < (n : Int)) = false := decide_eq_false (by omega)
        rw [hie]
        clear TT hie
        generalize C.sumP (C.mt rs) (C.asg n N) n = sm at *
        have hsm : (sm == sm) = true := beq_self_eq_true _
        go_wp2_with fail
        refine TW.out.mono ?_
        rintro e' w7 ⟨rfl, b7⟩
        go_wp2_with fail
        refine (awake_any _).mono ?_
        rintro e' w9 ⟨rfl, b9⟩
        go_wp2_with fail
        go_ret
        have B7 := BW.out.trans (b7.mono BW.out.size)
        exact ⟨rfl, B7.trans (b9.mono B7.size)⟩
end Go.Proofs.Ytnekhlklflgodaa
