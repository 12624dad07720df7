/-
  The statements of layer 17: RowdiffApply. By an AI agent.
-/
import Derived.Test.YteakiielcmgkeaaLwp
import Derived.Test.YteakiielcmgkeaaApx
import Derived.Test.YteakiielcmgkeaaOpenC
namespace Go.Proofs.Yteakiielcmgkeaa
set_option linter.unusedSimpArgs false
set_option linter.unusedVariables false
open Go.RowKit Go.Deep

theorem R.bad20 {x : Nat} (h : R.fine [x] = false) : 20 < x := by simpa [R.fine] using h
set_option maxRecDepth 100000 in
set_option maxHeartbeats 1000000 in
theorem applylaw_any (A1 : Option Addr) (c1 : Nat) (l : List R.G) (A2 : Option Addr) (c2 : Nat) (xs : List R.Cs) (w : World) (ha : Reads w w.heap.size 3 A1 l.length (R.gcs l)) (hla : l.length ≤ maxLen) (hca : l.length ≤ c1) (hx : R.Chs w w.heap.size A2 xs) (hg : ∀ x ∈ xs, R.CGood w x) (hxl : xs.length ≤ maxLen) :
    Calls Try.prog 8 #[.slice A1 l.length c1, .slice A2 xs.length c2] w fun e w' => e = .returned (.bool true) ∧ Below w.heap.size w w' := by
  have FN := Lib.hid (fine1_any A1 c1 l.length w hla)
  have b0 : Below w.heap.size w (w.alloc (.cells #[.slice A1 l.length c1] 22)) := (Below.refl _ _).alloc (Nat.le_refl _) _
  have B0 := Lib.hid b0
  have HA := Lib.hid ha
  have HX := Lib.hid hx
  have HG := Lib.hid hg
  unfold maxLen at hxl
  clear ha hx hg hla b0
  cases hf : R.fine [l.length] with
  | false =>
    rw [hf] at FN
    clear hf
    go_enter Try.func8, Try.ntmps8
    go_wp2_with fail
    refine FN.out.mono ?_
    rintro e w1 ⟨rfl, rfl⟩
    go_wp2_with fail
    refine (awake_any _).mono ?_
    rintro e w5 ⟨rfl, b5⟩
    go_wp2_with fail
    go_ret
    exact ⟨rfl, B0.out.trans (b5.mono B0.out.size)⟩
  | true =>
  rw [hf] at FN
  have la := R.fine1 hf
  clear hf
  by_cases h10 : 10 < xs.length
  · go_enter Try.func8, Try.ntmps8
    go_wp2_with fail
    refine FN.out.mono ?_
    rintro e w1 ⟨rfl, rfl⟩
    go_wp2_with fail
    refine (awake_any _).mono ?_
    rintro e w5 ⟨rfl, b5⟩
    go_wp2_with fail
    go_ret
    exact ⟨rfl, B0.out.trans (b5.mono B0.out.size)⟩
  · go_enter Try.func8, Try.ntmps8
    go_wp2_with fail
    refine FN.out.mono ?_
    rintro e w1 ⟨rfl, rfl⟩
    obtain ⟨W1, hW1⟩ : ∃ W, w.alloc (.cells #[.slice A1 l.length c1] 22) = W := ⟨_, rfl⟩
    rw [hW1] at B0 ⊢
    clear hW1 FN
    go_wp2_with fail
    go_loopw [23] (fun v wr => ∃ k : Nat, k ≤ xs.length ∧ v = .int .i64 k ∧ Hid (∀ j (h : j < xs.length), j < k → xs[j].c.gl.length ≤ 20) ∧ Hid (Below w.heap.size w wr)) (fun v _ => xs.length - (intOf v).toNat)
    case atStart => exact ⟨0, Nat.zero_le _, rfl, Lib.hid (fun j _ h => absurd h (by omega)), B0⟩
    case round =>
      clear B0
      obtain ⟨k, hk, rfl, hprev, hbl⟩ := hrel
      by_cases hlt : k < xs.length
      · obtain ⟨b4, o4, rfl, hb4, h4⟩ := (HX.out.below hbl.out (Nat.le_refl _)).at_ (by omega)
        obtain ⟨z0, z1, z2, z3, z4, z5⟩ := h4 k hlt
        obtain ⟨⟨Ag, cg, sg, rg, hcg⟩, hgm, hc1, hc2⟩ := HG.out xs[k] (List.getElem_mem hlt)
        have q1 : (0 : Int) ≤ (k : Int) := by omega
        have q2 : (k : Int) < (xs.length : Int) := by omega
        rw [sg] at z5
        have FN2 := Lib.hid (fun W => fine1_any Ag cg xs[k].c.gl.length W hgm)
        have HP2 : xs[k].c.gl.length ≤ 20 → (∀ j (h : j < xs.length), j < k + 1 → xs[j].c.gl.length ≤ 20) := fun h20 j h hj => by
          by_cases e : j = k
          · subst e; exact h20
          · exact hprev.out j h (by omega)
        have HP2 := Lib.hid HP2
        have AP := fun (W : World) (h : Below wr.heap.size wr W) (h20 : xs[k].c.gl.length ≤ 20) => apply_any A1 c1 w.heap.size l xs[k] Ag cg W sg (HA.out.below (hbl.out.trans (h.mono hbl.out.size)) (Nat.le_refl _)) (rg.below (hbl.out.trans (h.mono hbl.out.size)) (Nat.le_refl _)) (Nat.le_trans hbl.out.size h.size) (by omega) hca (by omega) hc1 hc2
        have RA := fun (W : World) (h : Below wr.heap.size wr W) (h20 : xs[k].c.gl.length ≤ 20) => refapply_any A1 c1 w.heap.size l xs[k] Ag cg W sg (HA.out.below (hbl.out.trans (h.mono hbl.out.size)) (Nat.le_refl _)) (rg.below (hbl.out.trans (h.mono hbl.out.size)) (Nat.le_refl _)) (Nat.le_trans hbl.out.size h.size) (by omega) (by omega) hc1 hc2
        have hrl : xs[k].c.gl.length ≤ 20 → (R.applyX l xs[k].c).1.length ≤ 1000 := fun h20 => by
          unfold R.applyX
          split
          · simp
          · split
            · simp
            · rename_i hn
              have := R.trim_length R.bl (R.body R.sp l ⟨xs[k].c.col, xs[k].c.count, xs[k].c.gl⟩)
              simp only
              refine Nat.le_trans this ?_
              unfold R.body
              simp only [List.length_append, List.length_take, List.length_replicate, List.length_drop]
              omega
        obtain ⟨r1, r2, hr⟩ : ∃ r1 r2, R.applyX l xs[k].c = (r1, r2) := ⟨_, _, rfl⟩
        rw [hr] at AP RA hrl
        have AP := Lib.hid AP
        have RA := Lib.hid RA
        have HRL := Lib.hid hrl
        simp only [R.Cs.cells] at AP RA
        rw [sg] at AP RA
        clear h4 sg rg hcg hc1 hc2 hrl hr hprev
        generalize xs[k].c.kind = x0 at *
        generalize xs[k].c.row = x1 at *
        generalize xs[k].c.col = x2 at *
        generalize xs[k].c.count = x3 at *
        generalize xs[k].c.to = x4 at *
        generalize xs[k].c.gl.length = x5 at *
        unfold maxLen at hgm
        have BA : Hid (Below wr.heap.size wr (wr.alloc (.cells #[.int .i64 x0, .int .i64 x1, .int .i64 x2, .int .i64 x3, .int .i64 x4, .slice Ag x5 cg] 29))) := Lib.hid ((Below.refl _ _).alloc (Nat.le_refl _) _)
        have VA : Hid ((wr.alloc (.cells #[.int .i64 x0, .int .i64 x1, .int .i64 x2, .int .i64 x3, .int .i64 x4, .slice Ag x5 cg] 29)).heap[wr.heap.size]? = some (.cells #[.int .i64 x0, .int .i64 x1, .int .i64 x2, .int .i64 x3, .int .i64 x4, .slice Ag x5 cg] 29 (0, 0))) := Lib.hid (heap_alloc_new wr _)
        have FN3 := FN2.out (wr.alloc (.cells #[.int .i64 x0, .int .i64 x1, .int .i64 x2, .int .i64 x3, .int .i64 x4, .slice Ag x5 cg] 29))
        rw [World.size_alloc] at FN3
        have BB : Hid (Below wr.heap.size wr ((wr.alloc (.cells #[.int .i64 x0, .int .i64 x1, .int .i64 x2, .int .i64 x3, .int .i64 x4, .slice Ag x5 cg] 29)).alloc (.cells #[.slice Ag x5 cg] 22))) := Lib.hid (BA.out.alloc BA.out.size _)
        have VB : Hid (((wr.alloc (.cells #[.int .i64 x0, .int .i64 x1, .int .i64 x2, .int .i64 x3, .int .i64 x4, .slice Ag x5 cg] 29)).alloc (.cells #[.slice Ag x5 cg] 22)).heap[wr.heap.size]? = some (.cells #[.int .i64 x0, .int .i64 x1, .int .i64 x2, .int .i64 x3, .int .i64 x4, .slice Ag x5 cg] 29 (0, 0))) := Lib.hid (heap_old2 _ _ VA.out)
        cases hf2 : R.fine [x5] with
        | false =>
          rw [hf2] at FN3
          have FN3 := Lib.hid FN3
          clear hf2 FN2
          go_wp2_with fail
          refine FN3.out.mono ?_
          rintro e w3 ⟨rfl, rfl⟩
          go_wp2_with fail
          refine (awake_any _).mono ?_
          rintro e w5 ⟨rfl, b5⟩
          go_wp2_with fail
          go_ret
          exact ⟨rfl, hbl.out.trans ((BB.out.trans (b5.mono BB.out.size)).mono hbl.out.size)⟩
        | true =>
          rw [hf2] at FN3
          have h20 := R.fine1 hf2
          have FN3 := Lib.hid FN3
          have hrl := HRL.out h20
          have AP1 := Lib.hid (AP.out _ BB.out h20)
          have HP3 := Lib.hid (HP2.out h20)
          clear hf2 FN2 AP HRL HP2
          go_wp2_with fail
          refine FN3.out.mono ?_
          rintro e w3 ⟨rfl, rfl⟩
          clear FN3
          obtain ⟨W3, hW3⟩ : ∃ W, (wr.alloc (.cells #[.int .i64 x0, .int .i64 x1, .int .i64 x2, .int .i64 x3, .int .i64 x4, .slice Ag x5 cg] 29)).alloc (.cells #[.slice Ag x5 cg] 22) = W := ⟨_, rfl⟩
          rw [hW3] at BB VB AP1 ⊢
          have k0 := cell_of_block_ (i := 0) VB.out
          have k1 := cell_of_block_ (i := 1) VB.out
          have k2 := cell_of_block_ (i := 2) VB.out
          have k3 := cell_of_block_ (i := 3) VB.out
          have k4 := cell_of_block_ (i := 4) VB.out
          have k5 := cell_of_block_ (i := 5) VB.out
          simp at k0 k1 k2 k3 k4 k5
          have hs3 : wr.heap.size < W3.heap.size := (Array.getElem?_eq_some_iff.1 VB.out).1
          clear hW3 z0 z1 z2 z3 z4 z5
          go_wp2_with fail
          refine AP1.out.mono ?_
          rintro e w4 ⟨v4, rfl, own4, b4⟩
          obtain ⟨A4, c4, rfl, r4, _⟩ := own_reads_cap own4
          have R4 := Lib.hid r4
          have V4 := (b4.block _ hs3).trans VB.out
          have B4 := Lib.hid (BB.out.trans (b4.mono BB.out.size))
          have RA1 := Lib.hid (RA.out _ B4.out h20)
          clear k0 k1 k2 k3 k4 k5 AP1 own4 r4 RA
          have k0 := cell_of_block_ (i := 0) V4
          have k1 := cell_of_block_ (i := 1) V4
          have k2 := cell_of_block_ (i := 2) V4
          have k3 := cell_of_block_ (i := 3) V4
          have k4 := cell_of_block_ (i := 4) V4
          have k5 := cell_of_block_ (i := 5) V4
          simp at k0 k1 k2 k3 k4 k5
          clear V4 b4
          go_wp2_with fail
          refine RA1.out.mono ?_
          rintro e w5 ⟨v5, rfl, own5, b5⟩
          obtain ⟨A5, c5, rfl, r5, _⟩ := own_reads_cap own5
          have hrl_ : r1.length ≤ 1000000 := Nat.le_trans hrl (by decide)
          have SG := sameglyphs_any A4 A5 c4 c5 w5.heap.size r1 r1 w5 ((R4.out.below b5 (Nat.le_refl _)).more b5.size) r5 hrl_ hrl_
          rw [decide_eq_true rfl] at SG
          have SG := Lib.hid SG
          have B5 := Lib.hid (hbl.out.trans ((B4.out.trans (b5.mono B4.out.size)).mono hbl.out.size))
          have hne : (r2 != r2) = false := by simp
          clear RA1 own5 r5 b5 k0 k1 k2 k3 k4 k5 R4 B4 hrl
          dsimp only
          go_wp2_with fail
          refine SG.out.mono ?_
          rintro e w6 ⟨rfl, q, rfl⟩
          have B6 := Lib.hid (below_drewN B5.out q)
          clear SG B5
          go_wp2_with fail
          exact ⟨⟨k + 1, hlt, by go_num, HP3, B6⟩, by simp [intOf]; omega⟩
      · obtain rfl : k = xs.length := by omega
        have q2 : decide (xs.length < xs.length) = false := decide_eq_false (by omega)
        have hgl : ∀ x ∈ xs, x.c.gl.length ≤ 100000 := fun x hx => by
          obtain ⟨j, hj, rfl⟩ := List.getElem_of_mem hx
          have := hprev.out j hj hj
          omega
        have CO := Lib.hid (cost_any A2 c2 w.heap.size xs wr (HX.out.below hbl.out (Nat.le_refl _)) hbl.out.size (by omega) hgl)
        have HGL := Lib.hid hgl
        have hbd := R.costX_bd xs hgl
        clear hgl hprev
        go_wp2_with fail
        refine CO.out.mono ?_
        rintro e w3 ⟨rfl, b3⟩
        have B3 := Lib.hid (hbl.out.trans (b3.mono hbl.out.size))
        have RC := Lib.hid (refcost_any A2 c2 w.heap.size xs w3 (HX.out.below B3.out (Nat.le_refl _)) B3.out.size (by omega) HGL.out)
        clear CO b3 hbl
        go_wp2_with fail
        refine RC.out.mono ?_
        rintro e w4 ⟨rfl, rfl⟩
        clear RC
        go_wp2_with fail
        refine (awake_any _).mono ?_
        rintro e w5 ⟨rfl, b5⟩
        go_wp2_with fail
        go_ret
        exact ⟨rfl, B3.out.trans (b5.mono B3.out.size)⟩
end Go.Proofs.Yteakiielcmgkeaa
