/-
  The walk of layer 44's law: awake. By an AI agent.
-/
import Derived.Test.YtfjkelngdljikaaAe
import Derived.Test.YtfjkelngdljikaaRe
import Derived.Test.YtfjkelngdljikaaSy
import Derived.Test.YtfjkelngdljikaaIn
namespace Go.Proofs.Ytfjkelngdljikaa
set_option linter.unusedVariables false
set_option linter.unusedSimpArgs false
open Go.RowKit Go.Joins Go.Deep

namespace Q
/-- The example: hello at once, you from 1000 on. -/
def hel : ByteArray := ⟨#[104, 101, 108, 108, 111]⟩
def you : ByteArray := ⟨#[121, 111, 117]⟩
def ex0 : Qa := ⟨0, 100, false, zero, 0, 0, []⟩
def ex1 : Qa := ⟨0, 100, true, said hel 0, 0, 280, [said you 1000]⟩
def ex2 : Qa := ⟨300, 100, false, zero, 0, 0, [said you 1000]⟩
theorem ex_chk0 : chk ex0 = 0 := by decide
theorem ex_rep : rep ex0 [said hel 0, said you 1000] = (ex1, 0) := by decide
instance (u : Ut) : Decidable (Small u) := inferInstanceAs (Decidable (_ ∧ _ ∧ _ ∧ _))
instance (a : Qa) : Decidable a.Sml := inferInstanceAs (Decidable (_ ∧ _ ∧ _))
theorem ex_sml0 : ex0.Sml := by decide
theorem ex_sml1 : ex1.Sml := by decide
theorem ex_sml2 : ex2.Sml := by decide
theorem ex_s1 : Small (said hel 0) := by decide
theorem ex_s2 : Small (said you 1000) := by decide
theorem ex_af2 : ∀ u ∈ ex2.items, 0 ≤ u.af ∧ u.af ≤ 1099511627776 := by decide
theorem ex_chk1 : chk ex1 = 0 := by decide
theorem ex_adv : ex1.advR 300 = (ex2, [⟨said hel 0, 0, 280, true⟩], 0) := by decide
theorem ex_rst : min (rst 100 (from_ ex2) ex2.items) 2199023255552 = 1200 := by decide
/-- A queue in a variable. -/
structure HQ (W : World) (b : Nat) (q : Qm) : Prop where
  v : W.heap[b]? = some (.cells q.cells.toArray 28 (0, 0))
  i : QIn W W.heap.size q
theorem HQ.below {W W' : World} {b : Nat} {q : Qm} (h : HQ W b q) (hb : Below W.heap.size W W') : HQ W' b q := ⟨(hb.block b (Array.getElem?_eq_some_iff.1 h.v).1).trans h.v, (h.i.below hb (Nat.le_refl _)).more hb.size⟩
theorem HQ.lt {W : World} {b : Nat} {q : Qm} (h : HQ W b q) : b < W.heap.size := (Array.getElem?_eq_some_iff.1 h.v).1
theorem HQ.put {W W' : World} {b : Nat} {C : Array Value} {q : Qm} (hv : W.heap[b]? = some (.cells C 28 (0, 0))) (hi : QIn W b q) (hg : W.grownBy W' (some b)) (hv' : W'.heap[b]? = some (.cells q.cells.toArray 28 (0, 0))) : HQ W' b q :=
  have hb := (Array.getElem?_eq_some_iff.1 hv).1
  ⟨hv', (hi.below (below_of_only hg (Nat.le_refl b) (by omega)) (Nat.le_refl _)).more (by have := hg.size; omega)⟩
end Q
set_option maxRecDepth 100000 in
set_option maxHeartbeats 4000000 in
theorem awake_any (w : World) : Calls Try.prog 13 #[] w fun e w' => e = .returned (.bool true) ∧ Below w.heap.size w w' := by
  have HIQ := Lib.hid infoQ
  have NW := new_any 0 100 w
  rw [show Q.chk ⟨0, 100, false, Q.zero, 0, 0, []⟩ = 0 from Q.ex_chk0] at NW
  unfold Q.NOut at NW
  simp only [if_true] at NW
  replace NW := Lib.hid NW
  go_enter Try.func13, Try.ntmps13
  go_wp2_with (go_at_call 21; refine NW.out.mono ?_; clear NW; rintro e w1 ⟨rfl, b1⟩; simp only [Q.new])
  have VX := heap_alloc_new w1 (.cells #[.int .i64 0, .int .i64 100, .bool false, .slice none 0 0, .slice none 0 0, .int .i64 0, .int .i64 0, .int .i64 0, .int .i64 0, .int .i64 0, .slice none 0 0] 28)
  have BX : Below w.heap.size w (w1.alloc (.cells #[.int .i64 0, .int .i64 100, .bool false, .slice none 0 0, .slice none 0 0, .int .i64 0, .int .i64 0, .int .i64 0, .int .i64 0, .int .i64 0, .slice none 0 0] 28)) := b1.alloc b1.size _
  have sX : w1.heap.size < (w1.alloc (.cells #[.int .i64 0, .int .i64 100, .bool false, .slice none 0 0, .slice none 0 0, .int .i64 0, .int .i64 0, .int .i64 0, .int .i64 0, .int .i64 0, .slice none 0 0] 28)).heap.size := by simp
  have hX : w.heap.size ≤ w1.heap.size := b1.size
  obtain ⟨X, hXe⟩ : ∃ X, w1.heap.size = X := ⟨_, rfl⟩
  obtain ⟨wa, hwa⟩ : ∃ wa, w1.alloc (.cells #[.int .i64 0, .int .i64 100, .bool false, .slice none 0 0, .slice none 0 0, .int .i64 0, .int .i64 0, .int .i64 0, .int .i64 0, .int .i64 0, .slice none 0 0] 28) = wa := ⟨_, rfl⟩
  rw [hwa] at VX BX sX ⊢
  rw [hXe] at VX sX hX ⊢
  obtain ⟨N, hN⟩ : ∃ N, w.heap.size = N := ⟨_, rfl⟩
  rw [hN] at BX hX
  have HN := Lib.hid hN
  clear hwa hXe b1 hN
  refine wp_cut (fun a' wx => ∃ (y7 y8 y9 y10 y11 y12 y13 y14 y15 y16 y17 y18 : Value) (q : Q.Qm), q.a = Q.ex1 ∧ Q.HQ wx X q ∧ Below N w wx ∧ a' = { tmps := #[.bool false, .pointer (some ⟨X, 0, none⟩), .int .i64 0, .int .i64 0, undef, undef, undef, y7, y8, y9, y10, y11, y12, y13, y14, y15, y16, y17, y18, undef, undef, undef, undef, undef, undef, undef, undef, undef, undef, undef, undef, undef, undef, undef, undef, undef, undef, undef, undef, undef, undef, undef, undef, undef, undef, undef, undef, undef, undef, undef, undef, undef, undef, undef, undef, undef, undef, undef, undef, undef, undef, undef, undef, undef, undef, undef, undef, undef, undef, undef, undef, undef, undef, undef, undef, undef, undef], defers := [] }) ?first ?rest
  case first =>
    refine wp_region_held_drew (S := fun _ => True) (by kernel_rfl) trivial (fun _ => ?_)
    obtain ⟨wd, hwd⟩ : ∃ wd, wa.drew = wd := ⟨_, rfl⟩
    have bd : Below wa.heap.size wa wd := by rw [← hwd]; exact (Below.refl _ wa).drew
    rw [hwd]
    have VD := Lib.hid ((bd.block X sX).trans VX)
    have BD := Lib.hid (BX.trans (bd.mono (by have := BX.size; omega)))
    have sD : X < wd.heap.size := Nat.lt_of_lt_of_le sX bd.size
    clear hwd VX BX sX bd
    refine wpAnyH_ready (rs := [0, 1]) (by kernel_rfl) (by simp) ?_
    refine AllReadyH.cons rfl (fun K hK => ?_) ?_
    · have VN := VD.out
      have k0 := cell_of_block_ (i := 0) VN
      have k1 := cell_of_block_ (i := 1) VN
      have k2 := cell_of_block_ (i := 2) VN
      have k3 := cell_of_block_ (i := 3) VN
      have k4 := cell_of_block_ (i := 4) VN
      have k5 := cell_of_block_ (i := 5) VN
      have k6 := cell_of_block_ (i := 6) VN
      have k7 := cell_of_block_ (i := 7) VN
      have k8 := cell_of_block_ (i := 8) VN
      have k9 := cell_of_block_ (i := 9) VN
      have k10 := cell_of_block_ (i := 10) VN
      simp at k0 k1 k2 k3 k4 k5 k6 k7 k8 k9 k10
      simp only [List.getElem_toArray, List.getElem_cons_succ, List.getElem_cons_zero]
      go_simp
      refine hK.out _ _ trivial (fun _ => ?_)
      clear hK K VN k0 k1 k2 k3 k4 k5 k6 k7 k8 k9 k10
      try simp only [List.getElem_toArray, List.getElem_cons_succ, List.getElem_cons_zero, Act.put, List.setIfInBounds_toArray, List.set_cons_zero, List.set_cons_succ]
      refine wpAnyH_ready (rs := [1]) (by kernel_rfl) (by simp) ?_
      refine AllReadyH.cons rfl (fun K hK => ?_) ?_
      · simp only [List.getElem_toArray, List.getElem_cons_succ, List.getElem_cons_zero]
        go_simp
        go_at_call 33
        refine (say_any _ _ wd).mono ?_
        rintro e wA ⟨A1, rfl, u1, bA⟩
        try go_wp2_with fail
        refine hK.out _ _ trivial (fun _ => ?_)
        clear hK K
        try simp only [List.getElem_toArray, List.getElem_cons_succ, List.getElem_cons_zero, Act.put, List.setIfInBounds_toArray, List.set_cons_zero, List.set_cons_succ]
        have VA := Lib.hid ((bA.block X sD).trans VD.out)
        have BA := Lib.hid (BD.out.trans (bA.mono (by omega)))
        have U1 := Lib.hid u1
        have sA := Nat.lt_of_lt_of_le sD bA.size
        clear u1 bA
        simp only [Q.Um.cells, Q.said, List.length_cons, List.length_nil, Nat.zero_add]
        refine wpAnyH_ready (rs := [2]) (by kernel_rfl) (by simp) ?_
        refine AllReadyH.cons rfl (fun K hK => ?_) ?_
        · simp only [List.getElem_toArray, List.getElem_cons_succ, List.getElem_cons_zero]
          go_simp
          go_at_call 33
          refine (say_any _ _ wA).mono ?_
          rintro e wB ⟨A2, rfl, u2, bB⟩
          try go_wp2_with fail
          refine hK.out _ _ trivial (fun _ => ?_)
          clear hK K
          try simp only [List.getElem_toArray, List.getElem_cons_succ, List.getElem_cons_zero, Act.put, List.setIfInBounds_toArray, List.set_cons_zero, List.set_cons_succ]
          have VB := Lib.hid ((bB.block X sA).trans VA.out)
          have BB := Lib.hid (BA.out.trans (bB.mono (by omega)))
          have U2 := Lib.hid u2
          have U1B := Lib.hid ((U1.out.below bB (Nat.le_refl _)).more bB.size)
          have sB := Nat.lt_of_lt_of_le sA bB.size
          clear u2 bB
          simp only [Q.Um.cells, Q.said, List.length_cons, List.length_nil, Nat.zero_add]
          refine wpAnyH_ready (rs := [3]) (by kernel_rfl) (by simp) ?_
          refine AllReadyH.cons rfl (fun K hK => ?_) ?_
          · simp only [List.getElem_toArray, List.getElem_cons_succ, List.getElem_cons_zero]
            go_simp
            refine hK.out _ _ trivial (fun _ => ?_)
            clear hK K
            try simp only [List.getElem_toArray, List.getElem_cons_succ, List.getElem_cons_zero, Act.put, List.setIfInBounds_toArray, List.set_cons_zero, List.set_cons_succ]
            have hbC := below_box wB (.cells #[.slice A1 1 1, .slice none 0 0, .int .i64 0, .int .i64 0, .int .i64 0, .slice A2 1 1, .slice none 0 0, .int .i64 0, .int .i64 1000, .int .i64 0] 25)
            have own2 := World.ownsRow_lit (base := wB.heap.size) (e := 25) (size := 5) wB #[.slice A1 1 1, .slice none 0 0, .int .i64 0, .int .i64 0, .int .i64 0, .slice A2 1 1, .slice none 0 0, .int .i64 0, .int .i64 1000, .int .i64 0] 2 (by simp) (by decide) rfl
            have US : Q.UsIn (wB.alloc (.cells #[.slice A1 1 1, .slice none 0 0, .int .i64 0, .int .i64 0, .int .i64 0, .slice A2 1 1, .slice none 0 0, .int .i64 0, .int .i64 1000, .int .i64 0] 25)) (wB.alloc (.cells #[.slice A1 1 1, .slice none 0 0, .int .i64 0, .int .i64 0, .int .i64 0, .slice A2 1 1, .slice none 0 0, .int .i64 0, .int .i64 1000, .int .i64 0] 25)).heap.size (some ⟨wB.heap.size, 0, none⟩) [(⟨Q.said Q.hel 0, A1, 1, none, 0⟩ : Q.Um), (⟨Q.said Q.you 1000, A2, 1, none, 0⟩ : Q.Um)] := ⟨by simpa [Q.ucs, Q.Um.cells, Q.said] using Reads.of_own own2, fun m hm => by
              simp only [List.mem_cons, List.not_mem_nil, or_false] at hm
              rcases hm with rfl | rfl
              · exact (U1B.out.below hbC (Nat.le_refl _)).more hbC.size
              · exact (U2.out.below hbC (Nat.le_refl _)).more hbC.size⟩
            obtain ⟨wC, hwC⟩ : ∃ wC, wB.alloc (.cells #[.slice A1 1 1, .slice none 0 0, .int .i64 0, .int .i64 0, .int .i64 0, .slice A2 1 1, .slice none 0 0, .int .i64 0, .int .i64 1000, .int .i64 0] 25) = wC := ⟨_, rfl⟩
            rw [hwC] at hbC US ⊢
            obtain ⟨G, hG⟩ : ∃ G, wB.heap.size = G := ⟨_, rfl⟩
            have VC := Lib.hid ((hbC.block X sB).trans VB.out)
            have BC := Lib.hid (BB.out.trans (hbC.mono (by omega)))
            have sC := Nat.lt_of_lt_of_le sB hbC.size
            rw [hG] at US ⊢
            have HUS := Lib.hid US
            clear hwC hG hbC own2 US
            refine wpAnyH_ready (rs := [4]) (by kernel_rfl) (by simp) ?_
            refine AllReadyH.cons rfl (fun K hK => ?_) ?_
            · have RP := Lib.hid (replace_any (⟨0, 100, false, ⟨Q.zero, none, 0, none, 0⟩, 0, 0, [], none, 0⟩ : Q.Qm) (some ⟨G, 0, none⟩) 2 wC.heap.size [(⟨Q.said Q.hel 0, A1, 1, none, 0⟩ : Q.Um), (⟨Q.said Q.you 1000, A2, 1, none, 0⟩ : Q.Um)] wC ⟨Q.zero_in _ _, ⟨Reads.none_, fun m hm => by cases hm⟩, Nat.le_refl _⟩ HUS.out (by simp) (Nat.le_refl _) Q.ex_sml0 (by simp) (fun m hm => by simp only [List.mem_cons, List.not_mem_nil, or_false] at hm; (rcases hm with rfl | rfl); exact Q.ex_s1; exact Q.ex_s2))
              rw [show Q.rep (Q.Qm.a (⟨0, 100, false, ⟨Q.zero, none, 0, none, 0⟩, 0, 0, [], none, 0⟩ : Q.Qm)) (([(⟨Q.said Q.hel 0, A1, 1, none, 0⟩ : Q.Um), (⟨Q.said Q.you 1000, A2, 1, none, 0⟩ : Q.Um)] : List Q.Um).map (·.u)) = (Q.ex1, 0) from Q.ex_rep] at RP
              simp only [Q.Qm.cells, Q.zero, List.length_nil, List.length_cons, Nat.zero_add, Nat.reduceAdd] at RP
              simp only [List.getElem_toArray, List.getElem_cons_succ, List.getElem_cons_zero]
              go_simp
              go_at_call 14
              refine RP.out.mono ?_
              rintro e w4 ⟨⟨ck4, rt4, sp4, ⟨⟨x0, x1, x2, x3, x4⟩, h0, i0, h1, i1⟩, be4, en4, it4, ai4, ci4⟩, rfl, e4, o4, b4⟩
              have E4 := Lib.hid e4
              clear e4
              try go_wp2_with fail
              refine hK.out _ _ trivial (fun _ => ?_)
              clear hK K RP
              try simp only [List.getElem_toArray, List.getElem_cons_succ, List.getElem_cons_zero, Act.put, List.setIfInBounds_toArray, List.set_cons_zero, List.set_cons_succ]
              simp only [Q.Qm.cells]
              have V4 := (b4.block X sC).trans VC.out
              refine tk 5 rfl (by kernel_rfl) trivial (fun _ _ _ h => h) (v := ?_) ?_ ?_
              rotate_left 1
              · (intro w hSw; (try dsimp only at hSw); (try simp only [List.getElem_toArray, List.getElem_cons_succ, List.getElem_cons_zero]); go_simp) <;> (with_reducible rfl)
              try simp only [List.getElem_toArray, List.getElem_cons_succ, List.getElem_cons_zero, Act.put, List.setIfInBounds_toArray, List.set_cons_zero, List.set_cons_succ]
              refine tk 6 rfl (by kernel_rfl) trivial (fun _ _ _ h => h) (v := ?_) ?_ ?_
              rotate_left 1
              · (intro w hSw; (try dsimp only at hSw); (try simp only [List.getElem_toArray, List.getElem_cons_succ, List.getElem_cons_zero]); go_simp) <;> (with_reducible rfl)
              try simp only [List.getElem_toArray, List.getElem_cons_succ, List.getElem_cons_zero, Act.put, List.setIfInBounds_toArray, List.set_cons_zero, List.set_cons_succ]
              refine tk 7 rfl (by kernel_rfl) trivial (fun _ _ _ h => h) (v := ?_) ?_ ?_
              rotate_left 1
              · (intro w hSw; (try dsimp only at hSw); (try simp only [List.getElem_toArray, List.getElem_cons_succ, List.getElem_cons_zero]); go_simp) <;> (with_reducible rfl)
              try simp only [List.getElem_toArray, List.getElem_cons_succ, List.getElem_cons_zero, Act.put, List.setIfInBounds_toArray, List.set_cons_zero, List.set_cons_succ]
              refine wpAnyH_ready (rs := [8]) (by kernel_rfl) (by simp) (AllReadyH.cons rfl (fun K hK => ?_) AllReadyH.nil)
              refine step_store_blk rfl 28 (.tmp 1) (.tmp 17) rfl X 0 #[.int .i64 ck4, .int .i64 rt4, .bool sp4, .slice h0 x0.length i0, .slice h1 x1.length i1, .int .i64 x2, .int .i64 x3, .int .i64 x4, .int .i64 be4, .int .i64 en4, .slice ai4 it4.length ci4] #[.int .i64 0, .int .i64 100, .bool false, .slice none 0 0, .slice none 0 0, .int .i64 0, .int .i64 0, .int .i64 0, .int .i64 0, .int .i64 0, .slice none 0 0] 28 rfl rfl V4 (by simp) HIQ.out (by simp [Value.oneCell']) ?_
              intro w5 hv5 hg5
              have hc5 : (putAt (#[.int .i64 0, .int .i64 100, .bool false, .slice none 0 0, .slice none 0 0, .int .i64 0, .int .i64 0, .int .i64 0, .int .i64 0, .int .i64 0, .slice none 0 0] : Array Value).toList 0 (#[.int .i64 ck4, .int .i64 rt4, .bool sp4, .slice h0 x0.length i0, .slice h1 x1.length i1, .int .i64 x2, .int .i64 x3, .int .i64 x4, .int .i64 be4, .int .i64 en4, .slice ai4 it4.length ci4] : Array Value).toList).toArray = #[.int .i64 ck4, .int .i64 rt4, .bool sp4, .slice h0 x0.length i0, .slice h1 x1.length i1, .int .i64 x2, .int .i64 x3, .int .i64 x4, .int .i64 be4, .int .i64 en4, .slice ai4 it4.length ci4] := by simp [putAt]
              rw [hc5] at hv5
              refine hK.out _ _ trivial (fun _ => ?_)
              clear hK K
              try simp only [List.getElem_toArray, List.getElem_cons_succ, List.getElem_cons_zero, Act.put, List.setIfInBounds_toArray, List.set_cons_zero, List.set_cons_succ]
              refine tk 9 rfl (by kernel_rfl) trivial (fun _ _ _ h => h) (v := ?_) ?_ ?_
              rotate_left 1
              · (intro w hSw; (try dsimp only at hSw); (try simp only [List.getElem_toArray, List.getElem_cons_succ, List.getElem_cons_zero]); go_simp) <;> (with_reducible rfl)
              try simp only [List.getElem_toArray, List.getElem_cons_succ, List.getElem_cons_zero, Act.put, List.setIfInBounds_toArray, List.set_cons_zero, List.set_cons_succ]
              refine wpAnyH_done (by kernel_rfl) ?_ _
              have b5 : Below N w4 w5 := Q.below_turn (by have := b4.size; omega) hg5 (fun r e => by injection e with e; omega)
              have o5 := o4.far V4 hg5
              exact ⟨_, _, _, _, _, _, _, _, _, _, _, _, ⟨ck4, rt4, sp4, ⟨⟨x0, x1, x2, x3, x4⟩, h0, i0, h1, i1⟩, be4, en4, it4, ai4, ci4⟩, E4.out, ⟨hv5, o5.qin⟩, (BC.out.trans (b4.mono (by omega))).trans b5, rfl⟩
            exact AllReadyH.nil
          exact AllReadyH.nil
        exact AllReadyH.nil
      exact AllReadyH.nil
    refine AllReadyH.cons rfl (fun K hK => ?_) ?_
    · simp only [List.getElem_toArray, List.getElem_cons_succ, List.getElem_cons_zero]
      go_simp
      go_at_call 33
      refine (say_any _ _ wd).mono ?_
      rintro e wA ⟨A1, rfl, u1, bA⟩
      try go_wp2_with fail
      refine hK.out _ _ trivial (fun _ => ?_)
      clear hK K
      try simp only [List.getElem_toArray, List.getElem_cons_succ, List.getElem_cons_zero, Act.put, List.setIfInBounds_toArray, List.set_cons_zero, List.set_cons_succ]
      have VA := Lib.hid ((bA.block X sD).trans VD.out)
      have BA := Lib.hid (BD.out.trans (bA.mono (by omega)))
      have U1 := Lib.hid u1
      have sA := Nat.lt_of_lt_of_le sD bA.size
      clear u1 bA
      simp only [Q.Um.cells, Q.said, List.length_cons, List.length_nil, Nat.zero_add]
      refine wpAnyH_ready (rs := [0, 2]) (by kernel_rfl) (by simp) ?_
      refine AllReadyH.cons rfl (fun K hK => ?_) ?_
      · have VN := VA.out
        have k0 := cell_of_block_ (i := 0) VN
        have k1 := cell_of_block_ (i := 1) VN
        have k2 := cell_of_block_ (i := 2) VN
        have k3 := cell_of_block_ (i := 3) VN
        have k4 := cell_of_block_ (i := 4) VN
        have k5 := cell_of_block_ (i := 5) VN
        have k6 := cell_of_block_ (i := 6) VN
        have k7 := cell_of_block_ (i := 7) VN
        have k8 := cell_of_block_ (i := 8) VN
        have k9 := cell_of_block_ (i := 9) VN
        have k10 := cell_of_block_ (i := 10) VN
        simp at k0 k1 k2 k3 k4 k5 k6 k7 k8 k9 k10
        simp only [List.getElem_toArray, List.getElem_cons_succ, List.getElem_cons_zero]
        go_simp
        refine hK.out _ _ trivial (fun _ => ?_)
        clear hK K VN k0 k1 k2 k3 k4 k5 k6 k7 k8 k9 k10
        try simp only [List.getElem_toArray, List.getElem_cons_succ, List.getElem_cons_zero, Act.put, List.setIfInBounds_toArray, List.set_cons_zero, List.set_cons_succ]
        refine wpAnyH_ready (rs := [2]) (by kernel_rfl) (by simp) ?_
        refine AllReadyH.cons rfl (fun K hK => ?_) ?_
        · simp only [List.getElem_toArray, List.getElem_cons_succ, List.getElem_cons_zero]
          go_simp
          go_at_call 33
          refine (say_any _ _ wA).mono ?_
          rintro e wB ⟨A2, rfl, u2, bB⟩
          try go_wp2_with fail
          refine hK.out _ _ trivial (fun _ => ?_)
          clear hK K
          try simp only [List.getElem_toArray, List.getElem_cons_succ, List.getElem_cons_zero, Act.put, List.setIfInBounds_toArray, List.set_cons_zero, List.set_cons_succ]
          have VB := Lib.hid ((bB.block X sA).trans VA.out)
          have BB := Lib.hid (BA.out.trans (bB.mono (by omega)))
          have U2 := Lib.hid u2
          have U1B := Lib.hid ((U1.out.below bB (Nat.le_refl _)).more bB.size)
          have sB := Nat.lt_of_lt_of_le sA bB.size
          clear u2 bB
          simp only [Q.Um.cells, Q.said, List.length_cons, List.length_nil, Nat.zero_add]
          refine wpAnyH_ready (rs := [3]) (by kernel_rfl) (by simp) ?_
          refine AllReadyH.cons rfl (fun K hK => ?_) ?_
          · simp only [List.getElem_toArray, List.getElem_cons_succ, List.getElem_cons_zero]
            go_simp
            refine hK.out _ _ trivial (fun _ => ?_)
            clear hK K
            try simp only [List.getElem_toArray, List.getElem_cons_succ, List.getElem_cons_zero, Act.put, List.setIfInBounds_toArray, List.set_cons_zero, List.set_cons_succ]
            have hbC := below_box wB (.cells #[.slice A1 1 1, .slice none 0 0, .int .i64 0, .int .i64 0, .int .i64 0, .slice A2 1 1, .slice none 0 0, .int .i64 0, .int .i64 1000, .int .i64 0] 25)
            have own2 := World.ownsRow_lit (base := wB.heap.size) (e := 25) (size := 5) wB #[.slice A1 1 1, .slice none 0 0, .int .i64 0, .int .i64 0, .int .i64 0, .slice A2 1 1, .slice none 0 0, .int .i64 0, .int .i64 1000, .int .i64 0] 2 (by simp) (by decide) rfl
            have US : Q.UsIn (wB.alloc (.cells #[.slice A1 1 1, .slice none 0 0, .int .i64 0, .int .i64 0, .int .i64 0, .slice A2 1 1, .slice none 0 0, .int .i64 0, .int .i64 1000, .int .i64 0] 25)) (wB.alloc (.cells #[.slice A1 1 1, .slice none 0 0, .int .i64 0, .int .i64 0, .int .i64 0, .slice A2 1 1, .slice none 0 0, .int .i64 0, .int .i64 1000, .int .i64 0] 25)).heap.size (some ⟨wB.heap.size, 0, none⟩) [(⟨Q.said Q.hel 0, A1, 1, none, 0⟩ : Q.Um), (⟨Q.said Q.you 1000, A2, 1, none, 0⟩ : Q.Um)] := ⟨by simpa [Q.ucs, Q.Um.cells, Q.said] using Reads.of_own own2, fun m hm => by
              simp only [List.mem_cons, List.not_mem_nil, or_false] at hm
              rcases hm with rfl | rfl
              · exact (U1B.out.below hbC (Nat.le_refl _)).more hbC.size
              · exact (U2.out.below hbC (Nat.le_refl _)).more hbC.size⟩
            obtain ⟨wC, hwC⟩ : ∃ wC, wB.alloc (.cells #[.slice A1 1 1, .slice none 0 0, .int .i64 0, .int .i64 0, .int .i64 0, .slice A2 1 1, .slice none 0 0, .int .i64 0, .int .i64 1000, .int .i64 0] 25) = wC := ⟨_, rfl⟩
            rw [hwC] at hbC US ⊢
            obtain ⟨G, hG⟩ : ∃ G, wB.heap.size = G := ⟨_, rfl⟩
            have VC := Lib.hid ((hbC.block X sB).trans VB.out)
            have BC := Lib.hid (BB.out.trans (hbC.mono (by omega)))
            have sC := Nat.lt_of_lt_of_le sB hbC.size
            rw [hG] at US ⊢
            have HUS := Lib.hid US
            clear hwC hG hbC own2 US
            refine wpAnyH_ready (rs := [4]) (by kernel_rfl) (by simp) ?_
            refine AllReadyH.cons rfl (fun K hK => ?_) ?_
            · have RP := Lib.hid (replace_any (⟨0, 100, false, ⟨Q.zero, none, 0, none, 0⟩, 0, 0, [], none, 0⟩ : Q.Qm) (some ⟨G, 0, none⟩) 2 wC.heap.size [(⟨Q.said Q.hel 0, A1, 1, none, 0⟩ : Q.Um), (⟨Q.said Q.you 1000, A2, 1, none, 0⟩ : Q.Um)] wC ⟨Q.zero_in _ _, ⟨Reads.none_, fun m hm => by cases hm⟩, Nat.le_refl _⟩ HUS.out (by simp) (Nat.le_refl _) Q.ex_sml0 (by simp) (fun m hm => by simp only [List.mem_cons, List.not_mem_nil, or_false] at hm; (rcases hm with rfl | rfl); exact Q.ex_s1; exact Q.ex_s2))
              rw [show Q.rep (Q.Qm.a (⟨0, 100, false, ⟨Q.zero, none, 0, none, 0⟩, 0, 0, [], none, 0⟩ : Q.Qm)) (([(⟨Q.said Q.hel 0, A1, 1, none, 0⟩ : Q.Um), (⟨Q.said Q.you 1000, A2, 1, none, 0⟩ : Q.Um)] : List Q.Um).map (·.u)) = (Q.ex1, 0) from Q.ex_rep] at RP
              simp only [Q.Qm.cells, Q.zero, List.length_nil, List.length_cons, Nat.zero_add, Nat.reduceAdd] at RP
              simp only [List.getElem_toArray, List.getElem_cons_succ, List.getElem_cons_zero]
              go_simp
              go_at_call 14
              refine RP.out.mono ?_
              rintro e w4 ⟨⟨ck4, rt4, sp4, ⟨⟨x0, x1, x2, x3, x4⟩, h0, i0, h1, i1⟩, be4, en4, it4, ai4, ci4⟩, rfl, e4, o4, b4⟩
              have E4 := Lib.hid e4
              clear e4
              try go_wp2_with fail
              refine hK.out _ _ trivial (fun _ => ?_)
              clear hK K RP
              try simp only [List.getElem_toArray, List.getElem_cons_succ, List.getElem_cons_zero, Act.put, List.setIfInBounds_toArray, List.set_cons_zero, List.set_cons_succ]
              simp only [Q.Qm.cells]
              have V4 := (b4.block X sC).trans VC.out
              refine tk 5 rfl (by kernel_rfl) trivial (fun _ _ _ h => h) (v := ?_) ?_ ?_
              rotate_left 1
              · (intro w hSw; (try dsimp only at hSw); (try simp only [List.getElem_toArray, List.getElem_cons_succ, List.getElem_cons_zero]); go_simp) <;> (with_reducible rfl)
              try simp only [List.getElem_toArray, List.getElem_cons_succ, List.getElem_cons_zero, Act.put, List.setIfInBounds_toArray, List.set_cons_zero, List.set_cons_succ]
              refine tk 6 rfl (by kernel_rfl) trivial (fun _ _ _ h => h) (v := ?_) ?_ ?_
              rotate_left 1
              · (intro w hSw; (try dsimp only at hSw); (try simp only [List.getElem_toArray, List.getElem_cons_succ, List.getElem_cons_zero]); go_simp) <;> (with_reducible rfl)
              try simp only [List.getElem_toArray, List.getElem_cons_succ, List.getElem_cons_zero, Act.put, List.setIfInBounds_toArray, List.set_cons_zero, List.set_cons_succ]
              refine tk 7 rfl (by kernel_rfl) trivial (fun _ _ _ h => h) (v := ?_) ?_ ?_
              rotate_left 1
              · (intro w hSw; (try dsimp only at hSw); (try simp only [List.getElem_toArray, List.getElem_cons_succ, List.getElem_cons_zero]); go_simp) <;> (with_reducible rfl)
              try simp only [List.getElem_toArray, List.getElem_cons_succ, List.getElem_cons_zero, Act.put, List.setIfInBounds_toArray, List.set_cons_zero, List.set_cons_succ]
              refine wpAnyH_ready (rs := [8]) (by kernel_rfl) (by simp) (AllReadyH.cons rfl (fun K hK => ?_) AllReadyH.nil)
              refine step_store_blk rfl 28 (.tmp 1) (.tmp 17) rfl X 0 #[.int .i64 ck4, .int .i64 rt4, .bool sp4, .slice h0 x0.length i0, .slice h1 x1.length i1, .int .i64 x2, .int .i64 x3, .int .i64 x4, .int .i64 be4, .int .i64 en4, .slice ai4 it4.length ci4] #[.int .i64 0, .int .i64 100, .bool false, .slice none 0 0, .slice none 0 0, .int .i64 0, .int .i64 0, .int .i64 0, .int .i64 0, .int .i64 0, .slice none 0 0] 28 rfl rfl V4 (by simp) HIQ.out (by simp [Value.oneCell']) ?_
              intro w5 hv5 hg5
              have hc5 : (putAt (#[.int .i64 0, .int .i64 100, .bool false, .slice none 0 0, .slice none 0 0, .int .i64 0, .int .i64 0, .int .i64 0, .int .i64 0, .int .i64 0, .slice none 0 0] : Array Value).toList 0 (#[.int .i64 ck4, .int .i64 rt4, .bool sp4, .slice h0 x0.length i0, .slice h1 x1.length i1, .int .i64 x2, .int .i64 x3, .int .i64 x4, .int .i64 be4, .int .i64 en4, .slice ai4 it4.length ci4] : Array Value).toList).toArray = #[.int .i64 ck4, .int .i64 rt4, .bool sp4, .slice h0 x0.length i0, .slice h1 x1.length i1, .int .i64 x2, .int .i64 x3, .int .i64 x4, .int .i64 be4, .int .i64 en4, .slice ai4 it4.length ci4] := by simp [putAt]
              rw [hc5] at hv5
              refine hK.out _ _ trivial (fun _ => ?_)
              clear hK K
              try simp only [List.getElem_toArray, List.getElem_cons_succ, List.getElem_cons_zero, Act.put, List.setIfInBounds_toArray, List.set_cons_zero, List.set_cons_succ]
              refine tk 9 rfl (by kernel_rfl) trivial (fun _ _ _ h => h) (v := ?_) ?_ ?_
              rotate_left 1
              · (intro w hSw; (try dsimp only at hSw); (try simp only [List.getElem_toArray, List.getElem_cons_succ, List.getElem_cons_zero]); go_simp) <;> (with_reducible rfl)
              try simp only [List.getElem_toArray, List.getElem_cons_succ, List.getElem_cons_zero, Act.put, List.setIfInBounds_toArray, List.set_cons_zero, List.set_cons_succ]
              refine wpAnyH_done (by kernel_rfl) ?_ _
              have b5 : Below N w4 w5 := Q.below_turn (by have := b4.size; omega) hg5 (fun r e => by injection e with e; omega)
              have o5 := o4.far V4 hg5
              exact ⟨_, _, _, _, _, _, _, _, _, _, _, _, ⟨ck4, rt4, sp4, ⟨⟨x0, x1, x2, x3, x4⟩, h0, i0, h1, i1⟩, be4, en4, it4, ai4, ci4⟩, E4.out, ⟨hv5, o5.qin⟩, (BC.out.trans (b4.mono (by omega))).trans b5, rfl⟩
            exact AllReadyH.nil
          exact AllReadyH.nil
        exact AllReadyH.nil
      refine AllReadyH.cons rfl (fun K hK => ?_) ?_
      · simp only [List.getElem_toArray, List.getElem_cons_succ, List.getElem_cons_zero]
        go_simp
        go_at_call 33
        refine (say_any _ _ wA).mono ?_
        rintro e wB ⟨A2, rfl, u2, bB⟩
        try go_wp2_with fail
        refine hK.out _ _ trivial (fun _ => ?_)
        clear hK K
        try simp only [List.getElem_toArray, List.getElem_cons_succ, List.getElem_cons_zero, Act.put, List.setIfInBounds_toArray, List.set_cons_zero, List.set_cons_succ]
        have VB := Lib.hid ((bB.block X sA).trans VA.out)
        have BB := Lib.hid (BA.out.trans (bB.mono (by omega)))
        have U2 := Lib.hid u2
        have U1B := Lib.hid ((U1.out.below bB (Nat.le_refl _)).more bB.size)
        have sB := Nat.lt_of_lt_of_le sA bB.size
        clear u2 bB
        simp only [Q.Um.cells, Q.said, List.length_cons, List.length_nil, Nat.zero_add]
        refine wpAnyH_ready (rs := [0, 3]) (by kernel_rfl) (by simp) ?_
        refine AllReadyH.cons rfl (fun K hK => ?_) ?_
        · have VN := VB.out
          have k0 := cell_of_block_ (i := 0) VN
          have k1 := cell_of_block_ (i := 1) VN
          have k2 := cell_of_block_ (i := 2) VN
          have k3 := cell_of_block_ (i := 3) VN
          have k4 := cell_of_block_ (i := 4) VN
          have k5 := cell_of_block_ (i := 5) VN
          have k6 := cell_of_block_ (i := 6) VN
          have k7 := cell_of_block_ (i := 7) VN
          have k8 := cell_of_block_ (i := 8) VN
          have k9 := cell_of_block_ (i := 9) VN
          have k10 := cell_of_block_ (i := 10) VN
          simp at k0 k1 k2 k3 k4 k5 k6 k7 k8 k9 k10
          simp only [List.getElem_toArray, List.getElem_cons_succ, List.getElem_cons_zero]
          go_simp
          refine hK.out _ _ trivial (fun _ => ?_)
          clear hK K VN k0 k1 k2 k3 k4 k5 k6 k7 k8 k9 k10
          try simp only [List.getElem_toArray, List.getElem_cons_succ, List.getElem_cons_zero, Act.put, List.setIfInBounds_toArray, List.set_cons_zero, List.set_cons_succ]
          refine wpAnyH_ready (rs := [3]) (by kernel_rfl) (by simp) ?_
          refine AllReadyH.cons rfl (fun K hK => ?_) ?_
          · simp only [List.getElem_toArray, List.getElem_cons_succ, List.getElem_cons_zero]
            go_simp
            refine hK.out _ _ trivial (fun _ => ?_)
            clear hK K
            try simp only [List.getElem_toArray, List.getElem_cons_succ, List.getElem_cons_zero, Act.put, List.setIfInBounds_toArray, List.set_cons_zero, List.set_cons_succ]
            have hbC := below_box wB (.cells #[.slice A1 1 1, .slice none 0 0, .int .i64 0, .int .i64 0, .int .i64 0, .slice A2 1 1, .slice none 0 0, .int .i64 0, .int .i64 1000, .int .i64 0] 25)
            have own2 := World.ownsRow_lit (base := wB.heap.size) (e := 25) (size := 5) wB #[.slice A1 1 1, .slice none 0 0, .int .i64 0, .int .i64 0, .int .i64 0, .slice A2 1 1, .slice none 0 0, .int .i64 0, .int .i64 1000, .int .i64 0] 2 (by simp) (by decide) rfl
            have US : Q.UsIn (wB.alloc (.cells #[.slice A1 1 1, .slice none 0 0, .int .i64 0, .int .i64 0, .int .i64 0, .slice A2 1 1, .slice none 0 0, .int .i64 0, .int .i64 1000, .int .i64 0] 25)) (wB.alloc (.cells #[.slice A1 1 1, .slice none 0 0, .int .i64 0, .int .i64 0, .int .i64 0, .slice A2 1 1, .slice none 0 0, .int .i64 0, .int .i64 1000, .int .i64 0] 25)).heap.size (some ⟨wB.heap.size, 0, none⟩) [(⟨Q.said Q.hel 0, A1, 1, none, 0⟩ : Q.Um), (⟨Q.said Q.you 1000, A2, 1, none, 0⟩ : Q.Um)] := ⟨by simpa [Q.ucs, Q.Um.cells, Q.said] using Reads.of_own own2, fun m hm => by
              simp only [List.mem_cons, List.not_mem_nil, or_false] at hm
              rcases hm with rfl | rfl
              · exact (U1B.out.below hbC (Nat.le_refl _)).more hbC.size
              · exact (U2.out.below hbC (Nat.le_refl _)).more hbC.size⟩
            obtain ⟨wC, hwC⟩ : ∃ wC, wB.alloc (.cells #[.slice A1 1 1, .slice none 0 0, .int .i64 0, .int .i64 0, .int .i64 0, .slice A2 1 1, .slice none 0 0, .int .i64 0, .int .i64 1000, .int .i64 0] 25) = wC := ⟨_, rfl⟩
            rw [hwC] at hbC US ⊢
            obtain ⟨G, hG⟩ : ∃ G, wB.heap.size = G := ⟨_, rfl⟩
            have VC := Lib.hid ((hbC.block X sB).trans VB.out)
            have BC := Lib.hid (BB.out.trans (hbC.mono (by omega)))
            have sC := Nat.lt_of_lt_of_le sB hbC.size
            rw [hG] at US ⊢
            have HUS := Lib.hid US
            clear hwC hG hbC own2 US
            refine wpAnyH_ready (rs := [4]) (by kernel_rfl) (by simp) ?_
            refine AllReadyH.cons rfl (fun K hK => ?_) ?_
            · have RP := Lib.hid (replace_any (⟨0, 100, false, ⟨Q.zero, none, 0, none, 0⟩, 0, 0, [], none, 0⟩ : Q.Qm) (some ⟨G, 0, none⟩) 2 wC.heap.size [(⟨Q.said Q.hel 0, A1, 1, none, 0⟩ : Q.Um), (⟨Q.said Q.you 1000, A2, 1, none, 0⟩ : Q.Um)] wC ⟨Q.zero_in _ _, ⟨Reads.none_, fun m hm => by cases hm⟩, Nat.le_refl _⟩ HUS.out (by simp) (Nat.le_refl _) Q.ex_sml0 (by simp) (fun m hm => by simp only [List.mem_cons, List.not_mem_nil, or_false] at hm; (rcases hm with rfl | rfl); exact Q.ex_s1; exact Q.ex_s2))
              rw [show Q.rep (Q.Qm.a (⟨0, 100, false, ⟨Q.zero, none, 0, none, 0⟩, 0, 0, [], none, 0⟩ : Q.Qm)) (([(⟨Q.said Q.hel 0, A1, 1, none, 0⟩ : Q.Um), (⟨Q.said Q.you 1000, A2, 1, none, 0⟩ : Q.Um)] : List Q.Um).map (·.u)) = (Q.ex1, 0) from Q.ex_rep] at RP
              simp only [Q.Qm.cells, Q.zero, List.length_nil, List.length_cons, Nat.zero_add, Nat.reduceAdd] at RP
              simp only [List.getElem_toArray, List.getElem_cons_succ, List.getElem_cons_zero]
              go_simp
              go_at_call 14
              refine RP.out.mono ?_
              rintro e w4 ⟨⟨ck4, rt4, sp4, ⟨⟨x0, x1, x2, x3, x4⟩, h0, i0, h1, i1⟩, be4, en4, it4, ai4, ci4⟩, rfl, e4, o4, b4⟩
              have E4 := Lib.hid e4
              clear e4
              try go_wp2_with fail
              refine hK.out _ _ trivial (fun _ => ?_)
              clear hK K RP
              try simp only [List.getElem_toArray, List.getElem_cons_succ, List.getElem_cons_zero, Act.put, List.setIfInBounds_toArray, List.set_cons_zero, List.set_cons_succ]
              simp only [Q.Qm.cells]
              have V4 := (b4.block X sC).trans VC.out
              refine tk 5 rfl (by kernel_rfl) trivial (fun _ _ _ h => h) (v := ?_) ?_ ?_
              rotate_left 1
              · (intro w hSw; (try dsimp only at hSw); (try simp only [List.getElem_toArray, List.getElem_cons_succ, List.getElem_cons_zero]); go_simp) <;> (with_reducible rfl)
              try simp only [List.getElem_toArray, List.getElem_cons_succ, List.getElem_cons_zero, Act.put, List.setIfInBounds_toArray, List.set_cons_zero, List.set_cons_succ]
              refine tk 6 rfl (by kernel_rfl) trivial (fun _ _ _ h => h) (v := ?_) ?_ ?_
              rotate_left 1
              · (intro w hSw; (try dsimp only at hSw); (try simp only [List.getElem_toArray, List.getElem_cons_succ, List.getElem_cons_zero]); go_simp) <;> (with_reducible rfl)
              try simp only [List.getElem_toArray, List.getElem_cons_succ, List.getElem_cons_zero, Act.put, List.setIfInBounds_toArray, List.set_cons_zero, List.set_cons_succ]
              refine tk 7 rfl (by kernel_rfl) trivial (fun _ _ _ h => h) (v := ?_) ?_ ?_
              rotate_left 1
              · (intro w hSw; (try dsimp only at hSw); (try simp only [List.getElem_toArray, List.getElem_cons_succ, List.getElem_cons_zero]); go_simp) <;> (with_reducible rfl)
              try simp only [List.getElem_toArray, List.getElem_cons_succ, List.getElem_cons_zero, Act.put, List.setIfInBounds_toArray, List.set_cons_zero, List.set_cons_succ]
              refine wpAnyH_ready (rs := [8]) (by kernel_rfl) (by simp) (AllReadyH.cons rfl (fun K hK => ?_) AllReadyH.nil)
              refine step_store_blk rfl 28 (.tmp 1) (.tmp 17) rfl X 0 #[.int .i64 ck4, .int .i64 rt4, .bool sp4, .slice h0 x0.length i0, .slice h1 x1.length i1, .int .i64 x2, .int .i64 x3, .int .i64 x4, .int .i64 be4, .int .i64 en4, .slice ai4 it4.length ci4] #[.int .i64 0, .int .i64 100, .bool false, .slice none 0 0, .slice none 0 0, .int .i64 0, .int .i64 0, .int .i64 0, .int .i64 0, .int .i64 0, .slice none 0 0] 28 rfl rfl V4 (by simp) HIQ.out (by simp [Value.oneCell']) ?_
              intro w5 hv5 hg5
              have hc5 : (putAt (#[.int .i64 0, .int .i64 100, .bool false, .slice none 0 0, .slice none 0 0, .int .i64 0, .int .i64 0, .int .i64 0, .int .i64 0, .int .i64 0, .slice none 0 0] : Array Value).toList 0 (#[.int .i64 ck4, .int .i64 rt4, .bool sp4, .slice h0 x0.length i0, .slice h1 x1.length i1, .int .i64 x2, .int .i64 x3, .int .i64 x4, .int .i64 be4, .int .i64 en4, .slice ai4 it4.length ci4] : Array Value).toList).toArray = #[.int .i64 ck4, .int .i64 rt4, .bool sp4, .slice h0 x0.length i0, .slice h1 x1.length i1, .int .i64 x2, .int .i64 x3, .int .i64 x4, .int .i64 be4, .int .i64 en4, .slice ai4 it4.length ci4] := by simp [putAt]
              rw [hc5] at hv5
              refine hK.out _ _ trivial (fun _ => ?_)
              clear hK K
              try simp only [List.getElem_toArray, List.getElem_cons_succ, List.getElem_cons_zero, Act.put, List.setIfInBounds_toArray, List.set_cons_zero, List.set_cons_succ]
              refine tk 9 rfl (by kernel_rfl) trivial (fun _ _ _ h => h) (v := ?_) ?_ ?_
              rotate_left 1
              · (intro w hSw; (try dsimp only at hSw); (try simp only [List.getElem_toArray, List.getElem_cons_succ, List.getElem_cons_zero]); go_simp) <;> (with_reducible rfl)
              try simp only [List.getElem_toArray, List.getElem_cons_succ, List.getElem_cons_zero, Act.put, List.setIfInBounds_toArray, List.set_cons_zero, List.set_cons_succ]
              refine wpAnyH_done (by kernel_rfl) ?_ _
              have b5 : Below N w4 w5 := Q.below_turn (by have := b4.size; omega) hg5 (fun r e => by injection e with e; omega)
              have o5 := o4.far V4 hg5
              exact ⟨_, _, _, _, _, _, _, _, _, _, _, _, ⟨ck4, rt4, sp4, ⟨⟨x0, x1, x2, x3, x4⟩, h0, i0, h1, i1⟩, be4, en4, it4, ai4, ci4⟩, E4.out, ⟨hv5, o5.qin⟩, (BC.out.trans (b4.mono (by omega))).trans b5, rfl⟩
            exact AllReadyH.nil
          exact AllReadyH.nil
        refine AllReadyH.cons rfl (fun K hK => ?_) ?_
        · simp only [List.getElem_toArray, List.getElem_cons_succ, List.getElem_cons_zero]
          go_simp
          refine hK.out _ _ trivial (fun _ => ?_)
          clear hK K
          try simp only [List.getElem_toArray, List.getElem_cons_succ, List.getElem_cons_zero, Act.put, List.setIfInBounds_toArray, List.set_cons_zero, List.set_cons_succ]
          have hbC := below_box wB (.cells #[.slice A1 1 1, .slice none 0 0, .int .i64 0, .int .i64 0, .int .i64 0, .slice A2 1 1, .slice none 0 0, .int .i64 0, .int .i64 1000, .int .i64 0] 25)
          have own2 := World.ownsRow_lit (base := wB.heap.size) (e := 25) (size := 5) wB #[.slice A1 1 1, .slice none 0 0, .int .i64 0, .int .i64 0, .int .i64 0, .slice A2 1 1, .slice none 0 0, .int .i64 0, .int .i64 1000, .int .i64 0] 2 (by simp) (by decide) rfl
          have US : Q.UsIn (wB.alloc (.cells #[.slice A1 1 1, .slice none 0 0, .int .i64 0, .int .i64 0, .int .i64 0, .slice A2 1 1, .slice none 0 0, .int .i64 0, .int .i64 1000, .int .i64 0] 25)) (wB.alloc (.cells #[.slice A1 1 1, .slice none 0 0, .int .i64 0, .int .i64 0, .int .i64 0, .slice A2 1 1, .slice none 0 0, .int .i64 0, .int .i64 1000, .int .i64 0] 25)).heap.size (some ⟨wB.heap.size, 0, none⟩) [(⟨Q.said Q.hel 0, A1, 1, none, 0⟩ : Q.Um), (⟨Q.said Q.you 1000, A2, 1, none, 0⟩ : Q.Um)] := ⟨by simpa [Q.ucs, Q.Um.cells, Q.said] using Reads.of_own own2, fun m hm => by
            simp only [List.mem_cons, List.not_mem_nil, or_false] at hm
            rcases hm with rfl | rfl
            · exact (U1B.out.below hbC (Nat.le_refl _)).more hbC.size
            · exact (U2.out.below hbC (Nat.le_refl _)).more hbC.size⟩
          obtain ⟨wC, hwC⟩ : ∃ wC, wB.alloc (.cells #[.slice A1 1 1, .slice none 0 0, .int .i64 0, .int .i64 0, .int .i64 0, .slice A2 1 1, .slice none 0 0, .int .i64 0, .int .i64 1000, .int .i64 0] 25) = wC := ⟨_, rfl⟩
          rw [hwC] at hbC US ⊢
          obtain ⟨G, hG⟩ : ∃ G, wB.heap.size = G := ⟨_, rfl⟩
          have VC := Lib.hid ((hbC.block X sB).trans VB.out)
          have BC := Lib.hid (BB.out.trans (hbC.mono (by omega)))
          have sC := Nat.lt_of_lt_of_le sB hbC.size
          rw [hG] at US ⊢
          have HUS := Lib.hid US
          clear hwC hG hbC own2 US
          refine wpAnyH_ready (rs := [0]) (by kernel_rfl) (by simp) ?_
          refine AllReadyH.cons rfl (fun K hK => ?_) ?_
          · have VN := VC.out
            have k0 := cell_of_block_ (i := 0) VN
            have k1 := cell_of_block_ (i := 1) VN
            have k2 := cell_of_block_ (i := 2) VN
            have k3 := cell_of_block_ (i := 3) VN
            have k4 := cell_of_block_ (i := 4) VN
            have k5 := cell_of_block_ (i := 5) VN
            have k6 := cell_of_block_ (i := 6) VN
            have k7 := cell_of_block_ (i := 7) VN
            have k8 := cell_of_block_ (i := 8) VN
            have k9 := cell_of_block_ (i := 9) VN
            have k10 := cell_of_block_ (i := 10) VN
            simp at k0 k1 k2 k3 k4 k5 k6 k7 k8 k9 k10
            simp only [List.getElem_toArray, List.getElem_cons_succ, List.getElem_cons_zero]
            go_simp
            refine hK.out _ _ trivial (fun _ => ?_)
            clear hK K VN k0 k1 k2 k3 k4 k5 k6 k7 k8 k9 k10
            try simp only [List.getElem_toArray, List.getElem_cons_succ, List.getElem_cons_zero, Act.put, List.setIfInBounds_toArray, List.set_cons_zero, List.set_cons_succ]
            refine wpAnyH_ready (rs := [4]) (by kernel_rfl) (by simp) ?_
            refine AllReadyH.cons rfl (fun K hK => ?_) ?_
            · have RP := Lib.hid (replace_any (⟨0, 100, false, ⟨Q.zero, none, 0, none, 0⟩, 0, 0, [], none, 0⟩ : Q.Qm) (some ⟨G, 0, none⟩) 2 wC.heap.size [(⟨Q.said Q.hel 0, A1, 1, none, 0⟩ : Q.Um), (⟨Q.said Q.you 1000, A2, 1, none, 0⟩ : Q.Um)] wC ⟨Q.zero_in _ _, ⟨Reads.none_, fun m hm => by cases hm⟩, Nat.le_refl _⟩ HUS.out (by simp) (Nat.le_refl _) Q.ex_sml0 (by simp) (fun m hm => by simp only [List.mem_cons, List.not_mem_nil, or_false] at hm; (rcases hm with rfl | rfl); exact Q.ex_s1; exact Q.ex_s2))
              rw [show Q.rep (Q.Qm.a (⟨0, 100, false, ⟨Q.zero, none, 0, none, 0⟩, 0, 0, [], none, 0⟩ : Q.Qm)) (([(⟨Q.said Q.hel 0, A1, 1, none, 0⟩ : Q.Um), (⟨Q.said Q.you 1000, A2, 1, none, 0⟩ : Q.Um)] : List Q.Um).map (·.u)) = (Q.ex1, 0) from Q.ex_rep] at RP
              simp only [Q.Qm.cells, Q.zero, List.length_nil, List.length_cons, Nat.zero_add, Nat.reduceAdd] at RP
              simp only [List.getElem_toArray, List.getElem_cons_succ, List.getElem_cons_zero]
              go_simp
              go_at_call 14
              refine RP.out.mono ?_
              rintro e w4 ⟨⟨ck4, rt4, sp4, ⟨⟨x0, x1, x2, x3, x4⟩, h0, i0, h1, i1⟩, be4, en4, it4, ai4, ci4⟩, rfl, e4, o4, b4⟩
              have E4 := Lib.hid e4
              clear e4
              try go_wp2_with fail
              refine hK.out _ _ trivial (fun _ => ?_)
              clear hK K RP
              try simp only [List.getElem_toArray, List.getElem_cons_succ, List.getElem_cons_zero, Act.put, List.setIfInBounds_toArray, List.set_cons_zero, List.set_cons_succ]
              simp only [Q.Qm.cells]
              have V4 := (b4.block X sC).trans VC.out
              refine tk 5 rfl (by kernel_rfl) trivial (fun _ _ _ h => h) (v := ?_) ?_ ?_
              rotate_left 1
              · (intro w hSw; (try dsimp only at hSw); (try simp only [List.getElem_toArray, List.getElem_cons_succ, List.getElem_cons_zero]); go_simp) <;> (with_reducible rfl)
              try simp only [List.getElem_toArray, List.getElem_cons_succ, List.getElem_cons_zero, Act.put, List.setIfInBounds_toArray, List.set_cons_zero, List.set_cons_succ]
              refine tk 6 rfl (by kernel_rfl) trivial (fun _ _ _ h => h) (v := ?_) ?_ ?_
              rotate_left 1
              · (intro w hSw; (try dsimp only at hSw); (try simp only [List.getElem_toArray, List.getElem_cons_succ, List.getElem_cons_zero]); go_simp) <;> (with_reducible rfl)
              try simp only [List.getElem_toArray, List.getElem_cons_succ, List.getElem_cons_zero, Act.put, List.setIfInBounds_toArray, List.set_cons_zero, List.set_cons_succ]
              refine tk 7 rfl (by kernel_rfl) trivial (fun _ _ _ h => h) (v := ?_) ?_ ?_
              rotate_left 1
              · (intro w hSw; (try dsimp only at hSw); (try simp only [List.getElem_toArray, List.getElem_cons_succ, List.getElem_cons_zero]); go_simp) <;> (with_reducible rfl)
              try simp only [List.getElem_toArray, List.getElem_cons_succ, List.getElem_cons_zero, Act.put, List.setIfInBounds_toArray, List.set_cons_zero, List.set_cons_succ]
              refine wpAnyH_ready (rs := [8]) (by kernel_rfl) (by simp) (AllReadyH.cons rfl (fun K hK => ?_) AllReadyH.nil)
              refine step_store_blk rfl 28 (.tmp 1) (.tmp 17) rfl X 0 #[.int .i64 ck4, .int .i64 rt4, .bool sp4, .slice h0 x0.length i0, .slice h1 x1.length i1, .int .i64 x2, .int .i64 x3, .int .i64 x4, .int .i64 be4, .int .i64 en4, .slice ai4 it4.length ci4] #[.int .i64 0, .int .i64 100, .bool false, .slice none 0 0, .slice none 0 0, .int .i64 0, .int .i64 0, .int .i64 0, .int .i64 0, .int .i64 0, .slice none 0 0] 28 rfl rfl V4 (by simp) HIQ.out (by simp [Value.oneCell']) ?_
              intro w5 hv5 hg5
              have hc5 : (putAt (#[.int .i64 0, .int .i64 100, .bool false, .slice none 0 0, .slice none 0 0, .int .i64 0, .int .i64 0, .int .i64 0, .int .i64 0, .int .i64 0, .slice none 0 0] : Array Value).toList 0 (#[.int .i64 ck4, .int .i64 rt4, .bool sp4, .slice h0 x0.length i0, .slice h1 x1.length i1, .int .i64 x2, .int .i64 x3, .int .i64 x4, .int .i64 be4, .int .i64 en4, .slice ai4 it4.length ci4] : Array Value).toList).toArray = #[.int .i64 ck4, .int .i64 rt4, .bool sp4, .slice h0 x0.length i0, .slice h1 x1.length i1, .int .i64 x2, .int .i64 x3, .int .i64 x4, .int .i64 be4, .int .i64 en4, .slice ai4 it4.length ci4] := by simp [putAt]
              rw [hc5] at hv5
              refine hK.out _ _ trivial (fun _ => ?_)
              clear hK K
              try simp only [List.getElem_toArray, List.getElem_cons_succ, List.getElem_cons_zero, Act.put, List.setIfInBounds_toArray, List.set_cons_zero, List.set_cons_succ]
              refine tk 9 rfl (by kernel_rfl) trivial (fun _ _ _ h => h) (v := ?_) ?_ ?_
              rotate_left 1
              · (intro w hSw; (try dsimp only at hSw); (try simp only [List.getElem_toArray, List.getElem_cons_succ, List.getElem_cons_zero]); go_simp) <;> (with_reducible rfl)
              try simp only [List.getElem_toArray, List.getElem_cons_succ, List.getElem_cons_zero, Act.put, List.setIfInBounds_toArray, List.set_cons_zero, List.set_cons_succ]
              refine wpAnyH_done (by kernel_rfl) ?_ _
              have b5 : Below N w4 w5 := Q.below_turn (by have := b4.size; omega) hg5 (fun r e => by injection e with e; omega)
              have o5 := o4.far V4 hg5
              exact ⟨_, _, _, _, _, _, _, _, _, _, _, _, ⟨ck4, rt4, sp4, ⟨⟨x0, x1, x2, x3, x4⟩, h0, i0, h1, i1⟩, be4, en4, it4, ai4, ci4⟩, E4.out, ⟨hv5, o5.qin⟩, (BC.out.trans (b4.mono (by omega))).trans b5, rfl⟩
            exact AllReadyH.nil
          exact AllReadyH.nil
        exact AllReadyH.nil
      exact AllReadyH.nil
    exact AllReadyH.nil
  case rest =>
    rintro a' wx ⟨y7, y8, y9, y10, y11, y12, y13, y14, y15, y16, y17, y18, ⟨ck, rt, sp, ⟨⟨p0, p1, p2, p3, p4⟩, a0, c0, a1, c1⟩, be, en, items, ai, ci⟩, eq, hq, bx, rfl⟩
    clear VX BX sX
    have AD := Lib.hid (advance_any _ 300 wx.heap.size wx hq.i (Nat.le_refl _) (by rw [eq]; exact Q.ex_sml1) (by rw [eq]; exact Q.ex_chk1))
    rw [eq, Q.ex_adv] at AD
    simp only [Q.Qm.cells] at AD
    have VQ := hq.v
    simp only [Q.Qm.cells] at VQ
    have k0 := cell_of_block_ (i := 0) VQ
    have k1 := cell_of_block_ (i := 1) VQ
    have k2 := cell_of_block_ (i := 2) VQ
    have k3 := cell_of_block_ (i := 3) VQ
    have k4 := cell_of_block_ (i := 4) VQ
    have k5 := cell_of_block_ (i := 5) VQ
    have k6 := cell_of_block_ (i := 6) VQ
    have k7 := cell_of_block_ (i := 7) VQ
    have k8 := cell_of_block_ (i := 8) VQ
    have k9 := cell_of_block_ (i := 9) VQ
    have k10 := cell_of_block_ (i := 10) VQ
    simp at k0 k1 k2 k3 k4 k5 k6 k7 k8 k9 k10
    have BX := Lib.hid bx
    have HQ := Lib.hid hq
    simp only [Q.Qm.a, Q.ex1, Q.Qa.mk.injEq] at eq
    obtain ⟨rfl, rfl, rfl, _, rfl, rfl, _⟩ := eq
    clear VQ bx hq
    go_wp2_with (first
      | (go_at_call 24; ( refine AD.out.mono ?_; clear AD; rintro e w5 ⟨⟨ck5, rt5, sp5, ⟨⟨x0, x1, x2, x3, x4⟩, h0, i0, h1, i1⟩, be5, en5, it5, ai5, ci5⟩, A5, c5, ss, rfl, e5, es, i5, r5, hc5, b5⟩; (have B5 := Lib.hid (BX.out.trans (b5.mono (by have := BX.out.size; have := HN.out; omega)))); (simp only [Q.Qm.cells]); (simp only at e5 es); (have E5 := e5); (simp only [Q.Qm.a, Q.ex2, Q.Qa.mk.injEq] at e5); (obtain ⟨rfl, rfl, rfl, _, rfl, rfl, _⟩ := e5); (have hss : ss.length = 1 := by have := congrArg List.length es; simpa using this); (obtain ⟨⟨sm, sbe, sen, sco⟩, rfl⟩ := List.length_eq_one_iff.1 hss); (simp only [List.map_cons, List.map_nil, Q.Sm.a, List.cons.injEq, and_true, Q.Sa.mk.injEq] at es); (obtain ⟨_, rfl, rfl, rfl⟩ := es); (obtain ⟨b, off, rfl, hbB, hat⟩ := Q.reads_sp r5.row (by simp)); (obtain ⟨_, _, _, _, _, _, s6, s7⟩ := hat 0 (by simp)); (simp only [Nat.zero_mul, Nat.add_zero, List.getElem_cons_zero] at s6 s7); (have HQ5 := HQ.out.below b5); (have VX5 := HQ5.v); (have bY := below_box w5 (.cells #[.int .i64 300, .int .i64 100, .bool false, .slice h0 x0.length i0, .slice h1 x1.length i1, .int .i64 x2, .int .i64 x3, .int .i64 x4, .int .i64 0, .int .i64 0, .slice ai5 it5.length ci5] 28)); (have VY := heap_alloc_new w5 (.cells #[.int .i64 300, .int .i64 100, .bool false, .slice h0 x0.length i0, .slice h1 x1.length i1, .int .i64 x2, .int .i64 x3, .int .i64 x4, .int .i64 0, .int .i64 0, .slice ai5 it5.length ci5] 28)); (have RS := Lib.hid (rest_any (⟨300, 100, false, ⟨⟨x0, x1, x2, x3, x4⟩, h0, i0, h1, i1⟩, 0, 0, it5, ai5, ci5⟩ : Q.Qm) (w5.alloc (.cells #[.int .i64 300, .int .i64 100, .bool false, .slice h0 x0.length i0, .slice h1 x1.length i1, .int .i64 x2, .int .i64 x3, .int .i64 x4, .int .i64 0, .int .i64 0, .slice ai5 it5.length ci5] 28)).heap.size (w5.alloc (.cells #[.int .i64 300, .int .i64 100, .bool false, .slice h0 x0.length i0, .slice h1 x1.length i1, .int .i64 x2, .int .i64 x3, .int .i64 x4, .int .i64 0, .int .i64 0, .slice ai5 it5.length ci5] 28)) (((i5.below bY (Nat.le_refl _)).more bY.size)) (Nat.le_refl _) (by have := Q.ex_sml2.1; rw [← E5] at this; simpa [Q.Qm.a] using this) (fun m hm => Q.ex_sml2.2.2 m.u (by rw [← E5]; exact List.mem_map.2 ⟨m, hm, rfl⟩)) (fun m hm => by have := Q.ex_af2 m.u (by rw [← E5]; exact List.mem_map.2 ⟨m, hm, rfl⟩); exact this) (by rw [E5]; decide) (by rw [E5]; decide))); (rw [E5, show min (Q.rst (⟨300, 100, false, ⟨⟨x0, x1, x2, x3, x4⟩, h0, i0, h1, i1⟩, 0, 0, it5, ai5, ci5⟩ : Q.Qm).rate (Q.from_ Q.ex2) Q.ex2.items) 2199023255552 = 1200 from Q.ex_rst] at RS); (simp only [Q.Qm.cells] at RS VX5); (have u6 := (bY.cell (p := ⟨b, off + 6, none⟩) hbB).trans s6); (have u7 := (bY.cell (p := ⟨b, off + 7, none⟩) hbB).trans s7); (have VX6 := (bY.block X (Array.getElem?_eq_some_iff.1 VX5).1).trans VX5); (have z2 := cell_of_block_ (i := 2) VX6); (have z9 := cell_of_block_ (i := 9) VX6); (simp at z2 z9); (have v0 := cell_of_block_ (i := 0) VY); (have v1 := cell_of_block_ (i := 1) VY); (have v2 := cell_of_block_ (i := 2) VY); (have v3 := cell_of_block_ (i := 3) VY); (have v4 := cell_of_block_ (i := 4) VY); (have v5 := cell_of_block_ (i := 5) VY); (have v6 := cell_of_block_ (i := 6) VY); (have v7 := cell_of_block_ (i := 7) VY); (have v8 := cell_of_block_ (i := 8) VY); (have v9 := cell_of_block_ (i := 9) VY); (have v10 := cell_of_block_ (i := 10) VY); (simp at v0 v1 v2 v3 v4 v5 v6 v7 v8 v9 v10); (have HB6 := Lib.hid (B5.out.trans (bY.mono (by have := B5.out.size; have := HN.out; omega)))); (clear VX5 VX6 VY bY s6 s7 hat r5 i5 b5 B5 HQ5 HQ BX k0 k1 k2 k3 k4 k5 k6 k7 k8 k9 k10 hss E5); (simp only [List.length_cons, List.length_nil, Nat.zero_add])))
      | (go_at_call 27; refine RS.out.mono ?_; clear RS; rintro e w9 ⟨rfl, b9⟩))
    go_ret
    exact ⟨rfl, by rw [HN.out]; exact HB6.out.trans (b9.mono (by have := HB6.out.size; have := HN.out; omega))⟩
end Go.Proofs.Ytfjkelngdljikaa
