/-
  The statements of layer 22: SegmentFields. By an AI agent.
-/
import Derived.Test.YthfpiomooomhoaaLaws1
import Derived.Test.YthfpiomooomhoaaPField
import Derived.Test.YthfpiomooomhoaaRk
namespace Go.Proofs.Ythfpiomooomhoaa
set_option linter.unusedVariables false
set_option linter.unusedSimpArgs false
open Go.RowKit

theorem heap_old2 (w : World) (o : Obj) {n : Nat} {x : Obj} (h : w.heap[n]? = some x) : (w.alloc o).heap[n]? = some x := by
  rw [Below.heap_alloc w o n (Array.getElem?_eq_some_iff.1 h).1]; exact h
theorem cell_of_block_ {W : World} {g i : Nat} {cs : Array Value} {t : TypeId} (h : W.heap[g]? = some (.cells cs t (0, 0))) : W.cell? ⟨g, i, none⟩ = cs[i]? := cell_of_row W g i cs t (0, 0) h

set_option maxRecDepth 100000 in
set_option maxHeartbeats 8000000 in
theorem fieldslaw_any (A : Option Addr) (c B : Nat) (gs : List S.G) (w : World) (hrow : Row w B A gs) (hB : B ≤ w.heap.size) :
    Calls Try.prog 5 #[.slice A gs.length c] w fun e w' => e = .returned (.bool true) ∧ Below w.heap.size w w' := by
  have HG := Lib.hid (great_any A c B gs w hrow.1 hrow.2.1 hrow.2.2)
  cases hgr : S.great gs
  · obtain ⟨hl, hg⟩ := S.great_false hgr
    rw [hgr] at HG
    clear hgr
    have hs : ∀ g ∈ gs, g.t.size ≤ maxLen := hrow.2.2
    have HW := Lib.hid (fields_any A c B gs w hrow.1 hB (by omega) hs)
    have hwl : (S.fields gs).length ≤ 200 := Nat.le_trans (List.length_filterMap_le _ _) (Nat.le_trans (S.spans_length _ _ _) (by omega))
    have HC : Hid (∀ A' c' w1, Reads w1 w1.heap.size 2 A' (S.fields gs).length ((S.fields gs).flatMap S.sc) → Calls Try.prog 13 #[.int .i64 gs.length, .slice A' (S.fields gs).length c'] w1 fun e w' => ∃ A' c', e = .returned (.tuple #[.slice A' gs.length c', .bool true]) ∧ Reads w' w'.heap.size 1 A' gs.length (ints ((List.range gs.length).map (S.cnt (S.fields gs)))) ∧ Below w1.heap.size w1 w') := Lib.hid (fun A' c' w1 hr =>
      covered_any gs.length A' c' w1.heap.size (S.fields gs) w1 (by omega) hr (Nat.le_refl _) (by omega) (S.fields_asc gs))
    have HX := Lib.hid (fun i hi => S.fields_cnt gs i hi)
    have HM := Lib.hid (fun k (hk : k < (S.fields gs).length) => S.fields_mem gs _ (List.getElem_mem hk))
    have HA := Lib.hid (S.fields_apart gs)
    have HROW := Lib.hid hrow
    have SZ := Lib.hid (fun j => sizeD (k := j) hrow.2.2)
    clear hrow hg hs
    go_enter Try.func5, Try.ntmps5
    go_wp2_with fail
    refine HG.out.mono ?_
    rintro e w0 ⟨rfl, rfl⟩
    go_wp2_with fail
    refine HW.out.mono ?_
    rintro e w1 ⟨A1, c1, rfl, r1, b1⟩
    go_wp2_with fail
    refine (HC.out _ _ _ r1).mono ?_
    rintro e w2 ⟨A2, c2, rfl, r2, b2⟩
    have hb2 : Below w.heap.size w w2 := b1.trans (b2.mono b1.size)
    clear HC HW HG
    go_wp2_with fail
    go_loopw [26] (fun i wr => ∃ k : Nat, k ≤ gs.length ∧ i = .int .i64 k ∧ Below w2.heap.size w2 wr) (fun i _ => gs.length - (intOf i).toNat)
    case atStart => exact ⟨0, Nat.zero_le _, rfl, Below.refl _ _⟩
    case round =>
      obtain ⟨k, hk, rfl, hb3⟩ := hrel
      have hbr : Below w.heap.size w wr := hb2.trans (hb3.mono hb2.size)
      by_cases hlt : k < gs.length
      · obtain ⟨b, off, rfl, hlo, hc⟩ := (HROW.out.1.below hbr hB).glyphD (by omega)
        obtain ⟨c0, c1', c2'⟩ := hc k hlt
        obtain ⟨b', off', rfl, hlo', hc'⟩ := (r2.below hb3 (Nat.le_refl _)).cnt (by omega)
        have d0 := hc' k hlt
        rw [HX.out k hlt] at d0
        have sg := SZ.out k hlt
        have hbl' : b' < wr.heap.size := by have := hb3.size; omega
        have HK : S.kd gs k = S.kind (gs.getD k default).t := rfl
        have BL := blank_any (gs.getD k default).t (gs.getD k default).wd (gs.getD k default).st wr sg
        clear hc hc'
        by_cases hk0 : S.kind (gs.getD k default).t = 0
        · rw [beq_iff_eq.2 hk0] at BL
          clear HK d0 hk0
          generalize gs.getD k default = g at *
          go_wp2_with (go_at_call 15; refine BL.mono ?_; clear BL; rintro e w3 ⟨rfl, h6⟩)
          go_roundw
          case rel => exact ⟨k + 1, hlt, by go_num, hb3.trans (h6.mono hb3.size)⟩
          case measure => simp [intOf] <;> omega
        · rw [beq_eq_false_iff_ne.2 hk0] at BL
          rw [S.gap_false_of (by rw [HK]; exact hk0)] at d0
          simp only [Bool.false_eq_true, if_false] at d0
          clear HK hk0
          generalize gs.getD k default = g at *
          go_wp2_with (go_at_call 15; refine BL.mono ?_; clear BL; rintro e w3 ⟨rfl, h6⟩; have d1 := (h6.cell (p := ⟨b', _, none⟩) hbl').trans d0)
          go_roundw
          case rel => exact ⟨k + 1, hlt, by go_num, hb3.trans (h6.mono hb3.size)⟩
          case measure => simp [intOf] <;> omega
      · obtain rfl : k = gs.length := by omega
        obtain ⟨w3, rfl⟩ : ∃ w3, w3 = wr := ⟨_, rfl⟩
        have hb13 : Below w.heap.size w w3 := hbr
        have r3 : Reads w3 w3.heap.size 2 A1 (S.fields gs).length ((S.fields gs).flatMap S.sc) := ((r1.below b2 (Nat.le_refl _)).below hb3 b2.size).more (Nat.le_trans b2.size hb3.size)
        go_wp2_with fail
        have hb13' := Lib.hid hb13
        have R3 := Lib.hid r3
        have HR0 := Lib.hid (HROW.out.1)
        have HA2 : Hid (∀ k (h1 : k < (S.fields gs).length) (h2 : k + 1 < (S.fields gs).length), ((S.fields gs)[k]'h1).2 + 2 ≤ ((S.fields gs)[k + 1]'h2).1) := Lib.hid (fun k h1 h2 => HA.out k h2)
        clear hb3 hbr hlt hk b2 r2 r1 HX r3 hb13 HROW HA
        generalize S.fields gs = fs at *
        have q3 : decide (0 < 0) = false := rfl
        go_loopw [45] (fun i wr => ∃ k : Nat, k ≤ fs.length ∧ i = .int .i64 k ∧ Hid (Below w3.heap.size w3 wr)) (fun i _ => fs.length - (intOf i).toNat)
        case atStart => exact ⟨0, Nat.zero_le _, rfl, Lib.hid (Below.refl _ _)⟩
        case round =>
          clear q3
          obtain ⟨k, hk, rfl, hb3⟩ := hrel
          have hbr := hb13'.out.trans (hb3.out.mono hb13'.out.size)
          by_cases hlt : k < fs.length
          · obtain ⟨m3, m4, m5, m6, m7⟩ := HM.out k hlt
            obtain ⟨b, off, rfl, hlo, hc⟩ := (HR0.out).glyphD (by omega)
            have GL : Hid (∀ (W : World) (i : Nat), Below w.heap.size w W → i < gs.length → W.cell? ⟨b, off + i * 3, none⟩ = some (.string (gs.getD i default).t) ∧ W.cell? ⟨b, off + i * 3 + 1, none⟩ = some (.bool (gs.getD i default).wd) ∧ W.cell? ⟨b, off + i * 3 + 2, none⟩ = some (.int .i64 (gs.getD i default).st)) := Lib.hid (fun W i h hi => by
              obtain ⟨k0, k1, k2⟩ := hc i hi
              have hbw : b < w.heap.size := Nat.lt_of_lt_of_le hlo hB
              exact ⟨(h.cell (p := ⟨b, _, none⟩) hbw).trans k0, (h.cell (p := ⟨b, _, none⟩) hbw).trans k1, (h.cell (p := ⟨b, _, none⟩) hbw).trans k2⟩)
            obtain ⟨bs, offs, rfl, hlos, hcs⟩ := (R3.out.below hb3.out (Nat.le_refl _)).span (by omega)
            obtain ⟨e0, e1⟩ := hcs k hlt
            have hbs : bs < wr.heap.size := Nat.lt_of_lt_of_le hlos hb3.out.size
            obtain ⟨a, ha⟩ : ∃ a, fs[k].1 = a := ⟨_, rfl⟩
            obtain ⟨d, hd⟩ : ∃ d, fs[k].2 = d := ⟨_, rfl⟩
            rw [ha] at e0 m3 m5 m7
            rw [hd] at e1 m3 m4 m6 m7
            have M5 := Lib.hid m7
            obtain ⟨f, he⟩ : ∃ f, d = f + 1 := ⟨d - 1, by omega⟩
            rw [show d - 1 = f by omega] at m6
            have qa4 : a < gs.length := by omega
            have qf4 : f < gs.length := by omega
            have sf := SZ.out f qf4
            have sa := SZ.out a qa4
            have HKA : S.kd gs a = S.kind (gs.getD a default).t := rfl
            have HKF : S.kd gs f = S.kind (gs.getD f default).t := rfl
            have pf : (S.kind (gs.getD f default).t == 0) = false := beq_eq_false_iff_ne.2 (by rw [← HKF]; exact m6)
            have pa : (S.kind (gs.getD a default).t == 0) = false := beq_eq_false_iff_ne.2 (by rw [← HKA]; exact m5)
            have BLA := fun W => blank_any (gs.getD a default).t (gs.getD a default).wd (gs.getD a default).st W sa
            have BLF := fun W => blank_any (gs.getD f default).t (gs.getD f default).wd (gs.getD f default).st W sf
            rw [pa] at BLA
            rw [pf] at BLF
            replace BLA := Lib.hid BLA
            replace BLF := Lib.hid BLF
            have q1 : (0 : Int) ≤ (f : Int) := by omega
            have q2 : (f : Int) < (gs.length : Int) := by omega
            have q3 : (0 : Int) ≤ (a : Int) := by omega
            have q4 : (a : Int) < (gs.length : Int) := by omega
            have q1k : (0 : Int) ≤ (k : Int) := by omega
            have q2k : (k : Int) < (fs.length : Int) := by omega
            have q5 : IntKind.i64.wrap ((d : Int) - 1) = (f : Int) := by rw [show (d : Int) - 1 = f by omega]; exact i64_nat (by omega)
            have BB : Hid (Below wr.heap.size wr (wr.alloc (.cells #[.int .i64 a, .int .i64 d] 34))) := Lib.hid ((Below.refl _ _).alloc (Nat.le_refl _) _)
            have VB : Hid ((wr.alloc (.cells #[.int .i64 a, .int .i64 d] 34)).heap[wr.heap.size]? = some (.cells #[.int .i64 a, .int .i64 d] 34 (0, 0))) := Lib.hid (heap_alloc_new wr _)
            have HBW0 : w.heap.size ≤ wr.heap.size := hbr.size
            obtain ⟨Bx, hBx⟩ : ∃ Bx, wr.heap.size = Bx := ⟨_, rfl⟩
            have HBX : Hid (w3.heap.size ≤ Bx) := Lib.hid (by rw [← hBx]; exact hb3.out.size)
            rw [hBx] at BB VB HBW0 hbs
            have HBW := Lib.hid HBW0
            have HBR := Lib.hid hbr
            have HBXQ := Lib.hid hBx
            obtain ⟨ga, hga⟩ : ∃ g, gs.getD a default = g := ⟨_, rfl⟩
            obtain ⟨gf, hgf⟩ : ∃ g, gs.getD f default = g := ⟨_, rfl⟩
            have HGA := Lib.hid hga
            have HGF := Lib.hid hgf
            rw [hga] at BLA
            rw [hgf] at BLF
            clear m5 m6 m7 hc HKA HKF pf pa sa sf hga hgf HBW0
            by_cases hk0 : k = 0
            · have q6 : decide (0 < k) = false := decide_eq_false (by omega)
              clear hk0 hcs hd ha he hlos hlo
              have CELL : Hid (∀ W : World, W.heap[Bx]? = some (.cells #[.int .i64 a, .int .i64 d] 34 (0, 0)) → Below Bx wr W → (W.cell? ⟨Bx, 0, none⟩ = some (.int .i64 a) ∧ W.cell? ⟨Bx, 1, none⟩ = some (.int .i64 d) ∧ W.cell? ⟨b, off + a * 3, none⟩ = some (.string ga.t) ∧ W.cell? ⟨b, off + a * 3 + 1, none⟩ = some (.bool ga.wd) ∧ W.cell? ⟨b, off + a * 3 + 2, none⟩ = some (.int .i64 ga.st) ∧ W.cell? ⟨b, off + f * 3, none⟩ = some (.string gf.t) ∧ W.cell? ⟨b, off + f * 3 + 1, none⟩ = some (.bool gf.wd) ∧ W.cell? ⟨b, off + f * 3 + 2, none⟩ = some (.int .i64 gf.st) ∧ W.heap[Bx]? = some (.cells #[.int .i64 a, .int .i64 d] 34 (0, 0)) ∧ Below Bx wr W)) := Lib.hid (fun W hv hb => by
                obtain ⟨e0, e1, e2⟩ := GL.out W a (hbr.trans (hb.mono HBW.out)) qa4
                obtain ⟨e3, e4, e5⟩ := GL.out W f (hbr.trans (hb.mono HBW.out)) qf4
                exact ⟨cell_of_block_ hv, cell_of_block_ hv, by rw [e0, HGA.out], by rw [e1, HGA.out], by rw [e2, HGA.out], by rw [e3, HGF.out], by rw [e4, HGF.out], by rw [e5, HGF.out], hv, hb⟩)
              clear hbr
              go_wp2_with fail
              refine wp_region_held_drew (S := fun w' => w'.cell? ⟨Bx, 0, none⟩ = some (.int .i64 a) ∧ w'.cell? ⟨Bx, 1, none⟩ = some (.int .i64 d) ∧ w'.cell? ⟨b, off + a * 3, none⟩ = some (.string ga.t) ∧ w'.cell? ⟨b, off + a * 3 + 1, none⟩ = some (.bool ga.wd) ∧ w'.cell? ⟨b, off + a * 3 + 2, none⟩ = some (.int .i64 ga.st) ∧ w'.cell? ⟨b, off + f * 3, none⟩ = some (.string gf.t) ∧ w'.cell? ⟨b, off + f * 3 + 1, none⟩ = some (.bool gf.wd) ∧ w'.cell? ⟨b, off + f * 3 + 2, none⟩ = some (.int .i64 gf.st) ∧ w'.heap[Bx]? = some (.cells #[.int .i64 a, .int .i64 d] 34 (0, 0)) ∧ Below Bx wr w') (by kernel_rfl) (CELL.out _ VB.out BB.out.drew) (fun hHeld => ?_)
              obtain ⟨wd, hwd⟩ : ∃ W, (wr.alloc (.cells #[.int .i64 a, .int .i64 d] 34)).drew = W := ⟨_, rfl⟩
              rw [hwd] at hHeld ⊢
              clear hwd
              refine tk 0 rfl (by kernel_rfl) hHeld (fun _ _ _ h => h) (v := ?_) ?_ ?_
              rotate_left 1
              · (intro w hSw; (try dsimp only at hSw); (try simp only [List.getElem_toArray, List.getElem_cons_succ, List.getElem_cons_zero]); go_simp) <;> (with_reducible rfl)
              try simp only [List.getElem_toArray, List.getElem_cons_succ, List.getElem_cons_zero, Act.put, List.setIfInBounds_toArray, List.set_cons_zero, List.set_cons_succ]
              refine tk 1 rfl (by kernel_rfl) hHeld (fun _ _ _ h => h) (v := ?_) ?_ ?_
              rotate_left 1
              · (intro w hSw; (try dsimp only at hSw); (try simp only [List.getElem_toArray, List.getElem_cons_succ, List.getElem_cons_zero]); go_simp) <;> (with_reducible rfl)
              try simp only [List.getElem_toArray, List.getElem_cons_succ, List.getElem_cons_zero, Act.put, List.setIfInBounds_toArray, List.set_cons_zero, List.set_cons_succ]
              refine tk 2 rfl (by kernel_rfl) hHeld (fun _ _ _ h => h) (v := ?_) ?_ ?_
              rotate_left 1
              · (intro w hSw; (try dsimp only at hSw); (try simp only [List.getElem_toArray, List.getElem_cons_succ, List.getElem_cons_zero]); go_simp) <;> (with_reducible rfl)
              try simp only [List.getElem_toArray, List.getElem_cons_succ, List.getElem_cons_zero, Act.put, List.setIfInBounds_toArray, List.set_cons_zero, List.set_cons_succ]
              refine tk 3 rfl (by kernel_rfl) hHeld (fun _ _ _ h => h) (v := ?_) ?_ ?_
              rotate_left 1
              · (intro w hSw; (try dsimp only at hSw); (try simp only [List.getElem_toArray, List.getElem_cons_succ, List.getElem_cons_zero]); go_simp) <;> (with_reducible rfl)
              try simp only [List.getElem_toArray, List.getElem_cons_succ, List.getElem_cons_zero, Act.put, List.setIfInBounds_toArray, List.set_cons_zero, List.set_cons_succ]
              refine tk 4 rfl (by kernel_rfl) hHeld (fun _ _ _ h => h) (v := ?_) ?_ ?_
              rotate_left 1
              · (intro w hSw; (try dsimp only at hSw); (try simp only [List.getElem_toArray, List.getElem_cons_succ, List.getElem_cons_zero]); go_simp) <;> (with_reducible rfl)
              try simp only [List.getElem_toArray, List.getElem_cons_succ, List.getElem_cons_zero, Act.put, List.setIfInBounds_toArray, List.set_cons_zero, List.set_cons_succ]
              refine wpAnyH_ready (rs := [5]) (by kernel_rfl) (by simp) (AllReadyH.cons rfl (fun K hK => ?_) AllReadyH.nil)
              simp only [List.getElem_toArray, List.getElem_cons_succ, List.getElem_cons_zero]
              go_simp
              go_at_call 15
              refine (BLA.out _).mono ?_
              rintro e w' ⟨rfl, b9⟩
              try go_wp2_with fail
              have b10 := hHeld.2.2.2.2.2.2.2.2.2.trans (b9.mono (Nat.le_of_lt (Array.getElem?_eq_some_iff.1 (hHeld.2.2.2.2.2.2.2.2.1)).1))
              have v10 := (b9.block Bx (Array.getElem?_eq_some_iff.1 hHeld.2.2.2.2.2.2.2.2.1).1).trans hHeld.2.2.2.2.2.2.2.2.1
              refine hK.out _ _ (CELL.out _ v10 b10) (fun hHeld => ?_)
              clear hK K b9 b10 v10
              try simp only [List.getElem_toArray, List.getElem_cons_succ, List.getElem_cons_zero, Act.put, List.setIfInBounds_toArray, List.set_cons_zero, List.set_cons_succ]
              refine tk 6 rfl (by kernel_rfl) hHeld (fun _ _ _ h => h) (v := ?_) ?_ ?_
              rotate_left 1
              · (intro w hSw; (try dsimp only at hSw); (try simp only [List.getElem_toArray, List.getElem_cons_succ, List.getElem_cons_zero]); go_simp) <;> (with_reducible rfl)
              try simp only [List.getElem_toArray, List.getElem_cons_succ, List.getElem_cons_zero, Act.put, List.setIfInBounds_toArray, List.set_cons_zero, List.set_cons_succ]
              refine tk 7 rfl (by kernel_rfl) hHeld (fun _ _ _ h => h) (v := ?_) ?_ ?_
              rotate_left 1
              · (intro w hSw; (try dsimp only at hSw); (try simp only [List.getElem_toArray, List.getElem_cons_succ, List.getElem_cons_zero]); go_simp) <;> (with_reducible rfl)
              try simp only [List.getElem_toArray, List.getElem_cons_succ, List.getElem_cons_zero, Act.put, List.setIfInBounds_toArray, List.set_cons_zero, List.set_cons_succ]
              refine tk 8 rfl (by kernel_rfl) hHeld (fun _ _ _ h => h) (v := ?_) ?_ ?_
              rotate_left 1
              · (intro w hSw; (try dsimp only at hSw); (try simp only [List.getElem_toArray, List.getElem_cons_succ, List.getElem_cons_zero]); go_simp) <;> (with_reducible rfl)
              try simp only [List.getElem_toArray, List.getElem_cons_succ, List.getElem_cons_zero, Act.put, List.setIfInBounds_toArray, List.set_cons_zero, List.set_cons_succ]
              refine tk 9 rfl (by kernel_rfl) hHeld (fun _ _ _ h => h) (v := ?_) ?_ ?_
              rotate_left 1
              · (intro w hSw; (try dsimp only at hSw); (try simp only [List.getElem_toArray, List.getElem_cons_succ, List.getElem_cons_zero]); go_simp) <;> (with_reducible rfl)
              try simp only [List.getElem_toArray, List.getElem_cons_succ, List.getElem_cons_zero, Act.put, List.setIfInBounds_toArray, List.set_cons_zero, List.set_cons_succ]
              refine tk 10 rfl (by kernel_rfl) hHeld (fun _ _ _ h => h) (v := ?_) ?_ ?_
              rotate_left 1
              · (intro w hSw; (try dsimp only at hSw); (try simp only [List.getElem_toArray, List.getElem_cons_succ, List.getElem_cons_zero]); go_simp) <;> (with_reducible rfl)
              try simp only [List.getElem_toArray, List.getElem_cons_succ, List.getElem_cons_zero, Act.put, List.setIfInBounds_toArray, List.set_cons_zero, List.set_cons_succ]
              refine tk 11 rfl (by kernel_rfl) hHeld (fun _ _ _ h => h) (v := ?_) ?_ ?_
              rotate_left 1
              · (intro w hSw; (try dsimp only at hSw); (try simp only [List.getElem_toArray, List.getElem_cons_succ, List.getElem_cons_zero]); go_simp) <;> (with_reducible rfl)
              try simp only [List.getElem_toArray, List.getElem_cons_succ, List.getElem_cons_zero, Act.put, List.setIfInBounds_toArray, List.set_cons_zero, List.set_cons_succ]
              refine tk 12 rfl (by kernel_rfl) hHeld (fun _ _ _ h => h) (v := ?_) ?_ ?_
              rotate_left 1
              · (intro w hSw; (try dsimp only at hSw); (try simp only [List.getElem_toArray, List.getElem_cons_succ, List.getElem_cons_zero]); go_simp) <;> (with_reducible rfl)
              try simp only [List.getElem_toArray, List.getElem_cons_succ, List.getElem_cons_zero, Act.put, List.setIfInBounds_toArray, List.set_cons_zero, List.set_cons_succ]
              refine wpAnyH_ready (rs := [13]) (by kernel_rfl) (by simp) (AllReadyH.cons rfl (fun K hK => ?_) AllReadyH.nil)
              simp only [List.getElem_toArray, List.getElem_cons_succ, List.getElem_cons_zero]
              go_simp
              go_at_call 15
              refine (BLF.out _).mono ?_
              rintro e w' ⟨rfl, b9⟩
              try go_wp2_with fail
              have b10 := hHeld.2.2.2.2.2.2.2.2.2.trans (b9.mono (Nat.le_of_lt (Array.getElem?_eq_some_iff.1 (hHeld.2.2.2.2.2.2.2.2.1)).1))
              have v10 := (b9.block Bx (Array.getElem?_eq_some_iff.1 hHeld.2.2.2.2.2.2.2.2.1).1).trans hHeld.2.2.2.2.2.2.2.2.1
              refine hK.out _ _ (CELL.out _ v10 b10) (fun hHeld => ?_)
              clear hK K b9 b10 v10
              try simp only [List.getElem_toArray, List.getElem_cons_succ, List.getElem_cons_zero, Act.put, List.setIfInBounds_toArray, List.set_cons_zero, List.set_cons_succ]
              refine tk 14 rfl (by kernel_rfl) hHeld (fun _ _ _ h => h) (v := ?_) ?_ ?_
              rotate_left 1
              · (intro w hSw; (try dsimp only at hSw); (try simp only [List.getElem_toArray, List.getElem_cons_succ, List.getElem_cons_zero]); go_simp) <;> (with_reducible rfl)
              try simp only [List.getElem_toArray, List.getElem_cons_succ, List.getElem_cons_zero, Act.put, List.setIfInBounds_toArray, List.set_cons_zero, List.set_cons_succ]
              refine tk 15 rfl (by kernel_rfl) hHeld (fun _ _ _ h => h) (v := ?_) ?_ ?_
              rotate_left 1
              · (intro w hSw; (try dsimp only at hSw); (try simp only [List.getElem_toArray, List.getElem_cons_succ, List.getElem_cons_zero]); go_simp) <;> (with_reducible rfl)
              try simp only [List.getElem_toArray, List.getElem_cons_succ, List.getElem_cons_zero, Act.put, List.setIfInBounds_toArray, List.set_cons_zero, List.set_cons_succ]
              refine tk 16 rfl (by kernel_rfl) hHeld (fun _ _ _ h => h) (v := ?_) ?_ ?_
              rotate_left 1
              · (intro w hSw; (try dsimp only at hSw); (try simp only [List.getElem_toArray, List.getElem_cons_succ, List.getElem_cons_zero]); go_simp) <;> (with_reducible rfl)
              try simp only [List.getElem_toArray, List.getElem_cons_succ, List.getElem_cons_zero, Act.put, List.setIfInBounds_toArray, List.set_cons_zero, List.set_cons_succ]
              refine tk 17 rfl (by kernel_rfl) hHeld (fun _ _ _ h => h) (v := ?_) ?_ ?_
              rotate_left 1
              · (intro w hSw; (try dsimp only at hSw); (try simp only [List.getElem_toArray, List.getElem_cons_succ, List.getElem_cons_zero]); go_simp) <;> (with_reducible rfl)
              try simp only [List.getElem_toArray, List.getElem_cons_succ, List.getElem_cons_zero, Act.put, List.setIfInBounds_toArray, List.set_cons_zero, List.set_cons_succ]
              refine tk 18 rfl (by kernel_rfl) hHeld (fun _ _ _ h => h) (v := ?_) ?_ ?_
              rotate_left 1
              · (intro w hSw; (try dsimp only at hSw); (try simp only [List.getElem_toArray, List.getElem_cons_succ, List.getElem_cons_zero]); go_simp) <;> (with_reducible rfl)
              try simp only [List.getElem_toArray, List.getElem_cons_succ, List.getElem_cons_zero, Act.put, List.setIfInBounds_toArray, List.set_cons_zero, List.set_cons_succ]
              refine sk 19 rfl (by kernel_rfl) hHeld (fun _ _ _ h => h) ?_
              try simp only [List.getElem_toArray, List.getElem_cons_succ, List.getElem_cons_zero, Act.put, List.setIfInBounds_toArray, List.set_cons_zero, List.set_cons_succ]
              refine sk 20 rfl (by kernel_rfl) hHeld (fun _ _ _ h => h) ?_
              try simp only [List.getElem_toArray, List.getElem_cons_succ, List.getElem_cons_zero, Act.put, List.setIfInBounds_toArray, List.set_cons_zero, List.set_cons_succ]
              refine sk 21 rfl (by kernel_rfl) hHeld (fun _ _ _ h => h) ?_
              try simp only [List.getElem_toArray, List.getElem_cons_succ, List.getElem_cons_zero, Act.put, List.setIfInBounds_toArray, List.set_cons_zero, List.set_cons_succ]
              refine sk 22 rfl (by kernel_rfl) hHeld (fun _ _ _ h => h) ?_
              try simp only [List.getElem_toArray, List.getElem_cons_succ, List.getElem_cons_zero, Act.put, List.setIfInBounds_toArray, List.set_cons_zero, List.set_cons_succ]
              refine sk 23 rfl (by kernel_rfl) hHeld (fun _ _ _ h => h) ?_
              try simp only [List.getElem_toArray, List.getElem_cons_succ, List.getElem_cons_zero, Act.put, List.setIfInBounds_toArray, List.set_cons_zero, List.set_cons_succ]
              refine sk 24 rfl (by kernel_rfl) hHeld (fun _ _ _ h => h) ?_
              try simp only [List.getElem_toArray, List.getElem_cons_succ, List.getElem_cons_zero, Act.put, List.setIfInBounds_toArray, List.set_cons_zero, List.set_cons_succ]
              refine sk 25 rfl (by kernel_rfl) hHeld (fun _ _ _ h => h) ?_
              try simp only [List.getElem_toArray, List.getElem_cons_succ, List.getElem_cons_zero, Act.put, List.setIfInBounds_toArray, List.set_cons_zero, List.set_cons_succ]
              refine sk 26 rfl (by kernel_rfl) hHeld (fun _ _ _ h => h) ?_
              try simp only [List.getElem_toArray, List.getElem_cons_succ, List.getElem_cons_zero, Act.put, List.setIfInBounds_toArray, List.set_cons_zero, List.set_cons_succ]
              refine sk 27 rfl (by kernel_rfl) hHeld (fun _ _ _ h => h) ?_
              try simp only [List.getElem_toArray, List.getElem_cons_succ, List.getElem_cons_zero, Act.put, List.setIfInBounds_toArray, List.set_cons_zero, List.set_cons_succ]
              refine sk 28 rfl (by kernel_rfl) hHeld (fun _ _ _ h => h) ?_
              try simp only [List.getElem_toArray, List.getElem_cons_succ, List.getElem_cons_zero, Act.put, List.setIfInBounds_toArray, List.set_cons_zero, List.set_cons_succ]
              refine tk 29 rfl (by kernel_rfl) hHeld (fun _ _ _ h => h) (v := ?_) ?_ ?_
              rotate_left 1
              · (intro w hSw; (try dsimp only at hSw); (try simp only [List.getElem_toArray, List.getElem_cons_succ, List.getElem_cons_zero]); go_simp) <;> (with_reducible rfl)
              try simp only [List.getElem_toArray, List.getElem_cons_succ, List.getElem_cons_zero, Act.put, List.setIfInBounds_toArray, List.set_cons_zero, List.set_cons_succ]
              refine tk 30 rfl (by kernel_rfl) hHeld (fun _ _ _ h => h) (v := ?_) ?_ ?_
              rotate_left 1
              · (intro w hSw; (try dsimp only at hSw); (try simp only [List.getElem_toArray, List.getElem_cons_succ, List.getElem_cons_zero]); go_simp) <;> (with_reducible rfl)
              try simp only [List.getElem_toArray, List.getElem_cons_succ, List.getElem_cons_zero, Act.put, List.setIfInBounds_toArray, List.set_cons_zero, List.set_cons_succ]
              refine wpAnyH_done (by kernel_rfl) ?_ _
              have BQ := Lib.hid hHeld.2.2.2.2.2.2.2.2.2
              have VQ := Lib.hid hHeld.2.2.2.2.2.2.2.2.1
              clear CELL BLA BLF
              have z0 := hHeld.1
              have z1 := hHeld.2.1
              clear hHeld
              go_wp2_with fail
              obtain ⟨wo, hwo⟩ : ∃ wo, wr = wo := ⟨_, rfl⟩
              rw [hwo] at BQ hb3 HBR
              clear hwo z0 z1
              go_loopw [9] (fun i wi => ∃ j : Nat, i = .int .i64 j ∧ a ≤ j ∧ j + 1 ≤ d ∧ Hid (Below Bx wo wi) ∧ Hid (wi.heap[Bx]? = some (.cells #[.int .i64 a, .int .i64 d] 34 (0, 0)))) (fun i _ => d - (intOf i).toNat)
              case atStart => exact ⟨a, rfl, Nat.le_refl _, by omega, BQ, VQ⟩
              case round =>
                clear BQ VQ
                obtain ⟨j, rfl, hj1, hj2, hb5, hv5⟩ := hrel
                have y0 := cell_of_block_ (i := 0) hv5.out
                have y1 := cell_of_block_ (i := 1) hv5.out
                simp at y0 y1
                have hj0 : (0 : Int) ≤ (j : Int) := by omega
                by_cases hjd : j + 1 < d
                · obtain ⟨x0, x1, x2⟩ := GL.out _ j (HBR.out.trans (hb5.out.mono HBW.out)) (by omega)
                  have sj := SZ.out j (by omega)
                  have h3 := M5.out j hj1 hjd
                  have HK : S.kd gs j = S.kind (gs.getD j default).t := rfl
                  rw [HK] at h3
                  have BJ := blank_any (gs.getD j default).t (gs.getD j default).wd (gs.getD j default).st wr sj
                  have hjl : (j : Int) < (gs.length : Int) := by omega
                  have hjl2 : (j : Int) + 1 < (gs.length : Int) := by omega
                  by_cases hkj : S.kind (gs.getD j default).t = 0
                  · have sj1 := SZ.out (j + 1) (by omega)
                    have hk1 : (S.kind (gs.getD (j + 1) default).t == 0) = false := beq_eq_false_iff_ne.2 (h3 hkj)
                    have BJ1 := fun w1 => blank_any (gs.getD (j + 1) default).t (gs.getD (j + 1) default).wd (gs.getD (j + 1) default).st w1 sj1
                    rw [hk1] at BJ1
                    have hkb : (S.kind (gs.getD j default).t == 0) = true := beq_iff_eq.2 hkj
                    rw [hkb] at BJ
                    have GJ := Lib.hid (fun w1 (h : Below w.heap.size w w1) => GL.out w1 (j + 1) h (by omega))
                    replace BJ := Lib.hid BJ
                    replace BJ1 := Lib.hid BJ1
                    clear h3 hkj HK hkb hk1 sj sj1
                    generalize gs.getD j default = gj at *
                    generalize gs.getD (j + 1) default = gj1 at *
                    go_wp2_with fail
                    refine BJ.out.mono ?_
                    rintro e w3 ⟨rfl, h6⟩
                    have hb6 := Lib.hid (hb5.out.trans (h6.mono (Nat.le_of_lt (Array.getElem?_eq_some_iff.1 hv5.out).1)))
                    have hv6 := Lib.hid ((h6.block Bx (Array.getElem?_eq_some_iff.1 hv5.out).1).trans hv5.out)
                    obtain ⟨g0, g1, g2⟩ := GJ.out w3 (HBR.out.trans (hb6.out.mono HBW.out))
                    have BJ2 := Lib.hid (BJ1.out w3)
                    clear BJ BJ1 h6 x0 x1 x2
                    go_wp2_with fail
                    refine BJ2.out.mono ?_
                    rintro e w4 ⟨rfl, h7⟩
                    have hb7 := Lib.hid (hb6.out.trans (h7.mono (Nat.le_of_lt (Array.getElem?_eq_some_iff.1 hv6.out).1)))
                    have hv7 := Lib.hid ((h7.block Bx (Array.getElem?_eq_some_iff.1 hv6.out).1).trans hv6.out)
                    clear BJ2 h7 g0 g1 g2
                    go_wp2_with fail
                    exact ⟨⟨j + 1, by go_num, by omega, hjd, hb7, hv7⟩, by simp [intOf]; omega⟩
                  · have hkb : (S.kind (gs.getD j default).t == 0) = false := beq_eq_false_iff_ne.2 hkj
                    rw [hkb] at BJ
                    replace BJ := Lib.hid BJ
                    clear h3 hkj HK hkb sj
                    generalize gs.getD j default = gj at *
                    go_wp2_with fail
                    refine BJ.out.mono ?_
                    rintro e w3 ⟨rfl, h6⟩
                    have hb6 := Lib.hid (hb5.out.trans (h6.mono (Nat.le_of_lt (Array.getElem?_eq_some_iff.1 hv5.out).1)))
                    have hv6 := Lib.hid ((h6.block Bx (Array.getElem?_eq_some_iff.1 hv5.out).1).trans hv5.out)
                    clear BJ h6 x0 x1 x2
                    go_wp2_with fail
                    exact ⟨⟨j + 1, by go_num, by omega, hjd, hb6, hv6⟩, by simp [intOf]; omega⟩
                · have hjq : decide (j + 1 < d) = false := decide_eq_false hjd
                  go_wp2_with fail
                  exact ⟨⟨k + 1, hlt, by go_num, Lib.hid (hb3.out.trans (hb5.out.mono HBX.out))⟩, by simp [intOf]; omega⟩
            · obtain ⟨m, hm⟩ : ∃ m, k = m + 1 := ⟨k - 1, by omega⟩
              have p0 := (hcs m (by omega)).2
              have hap := HA2.out m (by omega) (by omega)
              obtain ⟨z, hz⟩ : ∃ z, (fs[m]'(by omega)).2 = z := ⟨_, rfl⟩
              have hza : z + 2 ≤ a := by
                have e' : fs[m + 1]'(by omega) = fs[k] := by simp only [hm]
                rw [e', ha, hz] at hap
                exact hap
              rw [hz] at p0
              have q6 : decide (0 < k) = true := decide_eq_true (by omega)
              have q7 : IntKind.i64.wrap ((k : Int) - 1) = (m : Int) := by rw [show (k : Int) - 1 = m by omega]; exact i64_nat (by omega)
              have q8 : (0 : Int) ≤ (m : Int) := by omega
              have q9 : (m : Int) < (fs.length : Int) := by omega
              obtain ⟨y, hy⟩ : ∃ y : Nat, a = z + y := ⟨a - z, by omega⟩
              have qa : IntKind.i64.wrap ((a : Int) - (z : Int)) = (y : Int) := by rw [show (a : Int) - z = y by omega]; exact i64_nat (by omega)
              have qb : decide ((y : Int) < 2) = false := decide_eq_false (by omega)
              clear hap hz hk0 hy hm hcs hd ha he hlos hlo
              have CELL : Hid (∀ W : World, W.heap[Bx]? = some (.cells #[.int .i64 a, .int .i64 d] 34 (0, 0)) → Below Bx wr W → (W.cell? ⟨Bx, 0, none⟩ = some (.int .i64 a) ∧ W.cell? ⟨Bx, 1, none⟩ = some (.int .i64 d) ∧ W.cell? ⟨b, off + a * 3, none⟩ = some (.string ga.t) ∧ W.cell? ⟨b, off + a * 3 + 1, none⟩ = some (.bool ga.wd) ∧ W.cell? ⟨b, off + a * 3 + 2, none⟩ = some (.int .i64 ga.st) ∧ W.cell? ⟨b, off + f * 3, none⟩ = some (.string gf.t) ∧ W.cell? ⟨b, off + f * 3 + 1, none⟩ = some (.bool gf.wd) ∧ W.cell? ⟨b, off + f * 3 + 2, none⟩ = some (.int .i64 gf.st) ∧ W.cell? ⟨bs, offs + m * 2 + 1, none⟩ = some (.int .i64 z) ∧ W.heap[Bx]? = some (.cells #[.int .i64 a, .int .i64 d] 34 (0, 0)) ∧ Below Bx wr W)) := Lib.hid (fun W hv hb => by
                obtain ⟨e0, e1, e2⟩ := GL.out W a (hbr.trans (hb.mono HBW.out)) qa4
                obtain ⟨e3, e4, e5⟩ := GL.out W f (hbr.trans (hb.mono HBW.out)) qf4
                exact ⟨cell_of_block_ hv, cell_of_block_ hv, by rw [e0, HGA.out], by rw [e1, HGA.out], by rw [e2, HGA.out], by rw [e3, HGF.out], by rw [e4, HGF.out], by rw [e5, HGF.out], (hb.cell (p := ⟨bs, _, none⟩) hbs).trans p0, hv, hb⟩)
              clear p0 hbr
              go_wp2_with fail
              refine wp_region_held_drew (S := fun w' => w'.cell? ⟨Bx, 0, none⟩ = some (.int .i64 a) ∧ w'.cell? ⟨Bx, 1, none⟩ = some (.int .i64 d) ∧ w'.cell? ⟨b, off + a * 3, none⟩ = some (.string ga.t) ∧ w'.cell? ⟨b, off + a * 3 + 1, none⟩ = some (.bool ga.wd) ∧ w'.cell? ⟨b, off + a * 3 + 2, none⟩ = some (.int .i64 ga.st) ∧ w'.cell? ⟨b, off + f * 3, none⟩ = some (.string gf.t) ∧ w'.cell? ⟨b, off + f * 3 + 1, none⟩ = some (.bool gf.wd) ∧ w'.cell? ⟨b, off + f * 3 + 2, none⟩ = some (.int .i64 gf.st) ∧ w'.cell? ⟨bs, offs + m * 2 + 1, none⟩ = some (.int .i64 z) ∧ w'.heap[Bx]? = some (.cells #[.int .i64 a, .int .i64 d] 34 (0, 0)) ∧ Below Bx wr w') (by kernel_rfl) (CELL.out _ VB.out BB.out.drew) (fun hHeld => ?_)
              obtain ⟨wd, hwd⟩ : ∃ W, (wr.alloc (.cells #[.int .i64 a, .int .i64 d] 34)).drew = W := ⟨_, rfl⟩
              rw [hwd] at hHeld ⊢
              clear hwd
              refine tk 0 rfl (by kernel_rfl) hHeld (fun _ _ _ h => h) (v := ?_) ?_ ?_
              rotate_left 1
              · (intro w hSw; (try dsimp only at hSw); (try simp only [List.getElem_toArray, List.getElem_cons_succ, List.getElem_cons_zero]); go_simp) <;> (with_reducible rfl)
              try simp only [List.getElem_toArray, List.getElem_cons_succ, List.getElem_cons_zero, Act.put, List.setIfInBounds_toArray, List.set_cons_zero, List.set_cons_succ]
              refine tk 1 rfl (by kernel_rfl) hHeld (fun _ _ _ h => h) (v := ?_) ?_ ?_
              rotate_left 1
              · (intro w hSw; (try dsimp only at hSw); (try simp only [List.getElem_toArray, List.getElem_cons_succ, List.getElem_cons_zero]); go_simp) <;> (with_reducible rfl)
              try simp only [List.getElem_toArray, List.getElem_cons_succ, List.getElem_cons_zero, Act.put, List.setIfInBounds_toArray, List.set_cons_zero, List.set_cons_succ]
              refine tk 2 rfl (by kernel_rfl) hHeld (fun _ _ _ h => h) (v := ?_) ?_ ?_
              rotate_left 1
              · (intro w hSw; (try dsimp only at hSw); (try simp only [List.getElem_toArray, List.getElem_cons_succ, List.getElem_cons_zero]); go_simp) <;> (with_reducible rfl)
              try simp only [List.getElem_toArray, List.getElem_cons_succ, List.getElem_cons_zero, Act.put, List.setIfInBounds_toArray, List.set_cons_zero, List.set_cons_succ]
              refine tk 3 rfl (by kernel_rfl) hHeld (fun _ _ _ h => h) (v := ?_) ?_ ?_
              rotate_left 1
              · (intro w hSw; (try dsimp only at hSw); (try simp only [List.getElem_toArray, List.getElem_cons_succ, List.getElem_cons_zero]); go_simp) <;> (with_reducible rfl)
              try simp only [List.getElem_toArray, List.getElem_cons_succ, List.getElem_cons_zero, Act.put, List.setIfInBounds_toArray, List.set_cons_zero, List.set_cons_succ]
              refine tk 4 rfl (by kernel_rfl) hHeld (fun _ _ _ h => h) (v := ?_) ?_ ?_
              rotate_left 1
              · (intro w hSw; (try dsimp only at hSw); (try simp only [List.getElem_toArray, List.getElem_cons_succ, List.getElem_cons_zero]); go_simp) <;> (with_reducible rfl)
              try simp only [List.getElem_toArray, List.getElem_cons_succ, List.getElem_cons_zero, Act.put, List.setIfInBounds_toArray, List.set_cons_zero, List.set_cons_succ]
              refine wpAnyH_ready (rs := [5]) (by kernel_rfl) (by simp) (AllReadyH.cons rfl (fun K hK => ?_) AllReadyH.nil)
              simp only [List.getElem_toArray, List.getElem_cons_succ, List.getElem_cons_zero]
              go_simp
              go_at_call 15
              refine (BLA.out _).mono ?_
              rintro e w' ⟨rfl, b9⟩
              try go_wp2_with fail
              have b10 := hHeld.2.2.2.2.2.2.2.2.2.2.trans (b9.mono (Nat.le_of_lt (Array.getElem?_eq_some_iff.1 (hHeld.2.2.2.2.2.2.2.2.2.1)).1))
              have v10 := (b9.block Bx (Array.getElem?_eq_some_iff.1 hHeld.2.2.2.2.2.2.2.2.2.1).1).trans hHeld.2.2.2.2.2.2.2.2.2.1
              refine hK.out _ _ (CELL.out _ v10 b10) (fun hHeld => ?_)
              clear hK K b9 b10 v10
              try simp only [List.getElem_toArray, List.getElem_cons_succ, List.getElem_cons_zero, Act.put, List.setIfInBounds_toArray, List.set_cons_zero, List.set_cons_succ]
              refine tk 6 rfl (by kernel_rfl) hHeld (fun _ _ _ h => h) (v := ?_) ?_ ?_
              rotate_left 1
              · (intro w hSw; (try dsimp only at hSw); (try simp only [List.getElem_toArray, List.getElem_cons_succ, List.getElem_cons_zero]); go_simp) <;> (with_reducible rfl)
              try simp only [List.getElem_toArray, List.getElem_cons_succ, List.getElem_cons_zero, Act.put, List.setIfInBounds_toArray, List.set_cons_zero, List.set_cons_succ]
              refine tk 7 rfl (by kernel_rfl) hHeld (fun _ _ _ h => h) (v := ?_) ?_ ?_
              rotate_left 1
              · (intro w hSw; (try dsimp only at hSw); (try simp only [List.getElem_toArray, List.getElem_cons_succ, List.getElem_cons_zero]); go_simp) <;> (with_reducible rfl)
              try simp only [List.getElem_toArray, List.getElem_cons_succ, List.getElem_cons_zero, Act.put, List.setIfInBounds_toArray, List.set_cons_zero, List.set_cons_succ]
              refine tk 8 rfl (by kernel_rfl) hHeld (fun _ _ _ h => h) (v := ?_) ?_ ?_
              rotate_left 1
              · (intro w hSw; (try dsimp only at hSw); (try simp only [List.getElem_toArray, List.getElem_cons_succ, List.getElem_cons_zero]); go_simp) <;> (with_reducible rfl)
              try simp only [List.getElem_toArray, List.getElem_cons_succ, List.getElem_cons_zero, Act.put, List.setIfInBounds_toArray, List.set_cons_zero, List.set_cons_succ]
              refine tk 9 rfl (by kernel_rfl) hHeld (fun _ _ _ h => h) (v := ?_) ?_ ?_
              rotate_left 1
              · (intro w hSw; (try dsimp only at hSw); (try simp only [List.getElem_toArray, List.getElem_cons_succ, List.getElem_cons_zero]); go_simp) <;> (with_reducible rfl)
              try simp only [List.getElem_toArray, List.getElem_cons_succ, List.getElem_cons_zero, Act.put, List.setIfInBounds_toArray, List.set_cons_zero, List.set_cons_succ]
              refine tk 10 rfl (by kernel_rfl) hHeld (fun _ _ _ h => h) (v := ?_) ?_ ?_
              rotate_left 1
              · (intro w hSw; (try dsimp only at hSw); (try simp only [List.getElem_toArray, List.getElem_cons_succ, List.getElem_cons_zero]); go_simp) <;> (with_reducible rfl)
              try simp only [List.getElem_toArray, List.getElem_cons_succ, List.getElem_cons_zero, Act.put, List.setIfInBounds_toArray, List.set_cons_zero, List.set_cons_succ]
              refine tk 11 rfl (by kernel_rfl) hHeld (fun _ _ _ h => h) (v := ?_) ?_ ?_
              rotate_left 1
              · (intro w hSw; (try dsimp only at hSw); (try simp only [List.getElem_toArray, List.getElem_cons_succ, List.getElem_cons_zero]); go_simp) <;> (with_reducible rfl)
              try simp only [List.getElem_toArray, List.getElem_cons_succ, List.getElem_cons_zero, Act.put, List.setIfInBounds_toArray, List.set_cons_zero, List.set_cons_succ]
              refine tk 12 rfl (by kernel_rfl) hHeld (fun _ _ _ h => h) (v := ?_) ?_ ?_
              rotate_left 1
              · (intro w hSw; (try dsimp only at hSw); (try simp only [List.getElem_toArray, List.getElem_cons_succ, List.getElem_cons_zero]); go_simp) <;> (with_reducible rfl)
              try simp only [List.getElem_toArray, List.getElem_cons_succ, List.getElem_cons_zero, Act.put, List.setIfInBounds_toArray, List.set_cons_zero, List.set_cons_succ]
              refine wpAnyH_ready (rs := [13]) (by kernel_rfl) (by simp) (AllReadyH.cons rfl (fun K hK => ?_) AllReadyH.nil)
              simp only [List.getElem_toArray, List.getElem_cons_succ, List.getElem_cons_zero]
              go_simp
              go_at_call 15
              refine (BLF.out _).mono ?_
              rintro e w' ⟨rfl, b9⟩
              try go_wp2_with fail
              have b10 := hHeld.2.2.2.2.2.2.2.2.2.2.trans (b9.mono (Nat.le_of_lt (Array.getElem?_eq_some_iff.1 (hHeld.2.2.2.2.2.2.2.2.2.1)).1))
              have v10 := (b9.block Bx (Array.getElem?_eq_some_iff.1 hHeld.2.2.2.2.2.2.2.2.2.1).1).trans hHeld.2.2.2.2.2.2.2.2.2.1
              refine hK.out _ _ (CELL.out _ v10 b10) (fun hHeld => ?_)
              clear hK K b9 b10 v10
              try simp only [List.getElem_toArray, List.getElem_cons_succ, List.getElem_cons_zero, Act.put, List.setIfInBounds_toArray, List.set_cons_zero, List.set_cons_succ]
              refine tk 14 rfl (by kernel_rfl) hHeld (fun _ _ _ h => h) (v := ?_) ?_ ?_
              rotate_left 1
              · (intro w hSw; (try dsimp only at hSw); (try simp only [List.getElem_toArray, List.getElem_cons_succ, List.getElem_cons_zero]); go_simp) <;> (with_reducible rfl)
              try simp only [List.getElem_toArray, List.getElem_cons_succ, List.getElem_cons_zero, Act.put, List.setIfInBounds_toArray, List.set_cons_zero, List.set_cons_succ]
              refine tk 15 rfl (by kernel_rfl) hHeld (fun _ _ _ h => h) (v := ?_) ?_ ?_
              rotate_left 1
              · (intro w hSw; (try dsimp only at hSw); (try simp only [List.getElem_toArray, List.getElem_cons_succ, List.getElem_cons_zero]); go_simp) <;> (with_reducible rfl)
              try simp only [List.getElem_toArray, List.getElem_cons_succ, List.getElem_cons_zero, Act.put, List.setIfInBounds_toArray, List.set_cons_zero, List.set_cons_succ]
              refine tk 16 rfl (by kernel_rfl) hHeld (fun _ _ _ h => h) (v := ?_) ?_ ?_
              rotate_left 1
              · (intro w hSw; (try dsimp only at hSw); (try simp only [List.getElem_toArray, List.getElem_cons_succ, List.getElem_cons_zero]); go_simp) <;> (with_reducible rfl)
              try simp only [List.getElem_toArray, List.getElem_cons_succ, List.getElem_cons_zero, Act.put, List.setIfInBounds_toArray, List.set_cons_zero, List.set_cons_succ]
              refine tk 17 rfl (by kernel_rfl) hHeld (fun _ _ _ h => h) (v := ?_) ?_ ?_
              rotate_left 1
              · (intro w hSw; (try dsimp only at hSw); (try simp only [List.getElem_toArray, List.getElem_cons_succ, List.getElem_cons_zero]); go_simp) <;> (with_reducible rfl)
              try simp only [List.getElem_toArray, List.getElem_cons_succ, List.getElem_cons_zero, Act.put, List.setIfInBounds_toArray, List.set_cons_zero, List.set_cons_succ]
              refine tk 18 rfl (by kernel_rfl) hHeld (fun _ _ _ h => h) (v := ?_) ?_ ?_
              rotate_left 1
              · (intro w hSw; (try dsimp only at hSw); (try simp only [List.getElem_toArray, List.getElem_cons_succ, List.getElem_cons_zero]); go_simp) <;> (with_reducible rfl)
              try simp only [List.getElem_toArray, List.getElem_cons_succ, List.getElem_cons_zero, Act.put, List.setIfInBounds_toArray, List.set_cons_zero, List.set_cons_succ]
              refine tk 19 rfl (by kernel_rfl) hHeld (fun _ _ _ h => h) (v := ?_) ?_ ?_
              rotate_left 1
              · (intro w hSw; (try dsimp only at hSw); (try simp only [List.getElem_toArray, List.getElem_cons_succ, List.getElem_cons_zero]); go_simp) <;> (with_reducible rfl)
              try simp only [List.getElem_toArray, List.getElem_cons_succ, List.getElem_cons_zero, Act.put, List.setIfInBounds_toArray, List.set_cons_zero, List.set_cons_succ]
              refine tk 20 rfl (by kernel_rfl) hHeld (fun _ _ _ h => h) (v := ?_) ?_ ?_
              rotate_left 1
              · (intro w hSw; (try dsimp only at hSw); (try simp only [List.getElem_toArray, List.getElem_cons_succ, List.getElem_cons_zero]); go_simp) <;> (with_reducible rfl)
              try simp only [List.getElem_toArray, List.getElem_cons_succ, List.getElem_cons_zero, Act.put, List.setIfInBounds_toArray, List.set_cons_zero, List.set_cons_succ]
              refine tk 21 rfl (by kernel_rfl) hHeld (fun _ _ _ h => h) (v := ?_) ?_ ?_
              rotate_left 1
              · (intro w hSw; (try dsimp only at hSw); (try simp only [List.getElem_toArray, List.getElem_cons_succ, List.getElem_cons_zero]); go_simp) <;> (with_reducible rfl)
              try simp only [List.getElem_toArray, List.getElem_cons_succ, List.getElem_cons_zero, Act.put, List.setIfInBounds_toArray, List.set_cons_zero, List.set_cons_succ]
              refine tk 22 rfl (by kernel_rfl) hHeld (fun _ _ _ h => h) (v := ?_) ?_ ?_
              rotate_left 1
              · (intro w hSw; (try dsimp only at hSw); (try simp only [List.getElem_toArray, List.getElem_cons_succ, List.getElem_cons_zero]); go_simp) <;> (with_reducible rfl)
              try simp only [List.getElem_toArray, List.getElem_cons_succ, List.getElem_cons_zero, Act.put, List.setIfInBounds_toArray, List.set_cons_zero, List.set_cons_succ]
              refine tk 23 rfl (by kernel_rfl) hHeld (fun _ _ _ h => h) (v := ?_) ?_ ?_
              rotate_left 1
              · (intro w hSw; (try dsimp only at hSw); (try simp only [List.getElem_toArray, List.getElem_cons_succ, List.getElem_cons_zero]); go_simp) <;> (with_reducible rfl)
              try simp only [List.getElem_toArray, List.getElem_cons_succ, List.getElem_cons_zero, Act.put, List.setIfInBounds_toArray, List.set_cons_zero, List.set_cons_succ]
              refine tk 24 rfl (by kernel_rfl) hHeld (fun _ _ _ h => h) (v := ?_) ?_ ?_
              rotate_left 1
              · (intro w hSw; (try dsimp only at hSw); (try simp only [List.getElem_toArray, List.getElem_cons_succ, List.getElem_cons_zero]); go_simp) <;> (with_reducible rfl)
              try simp only [List.getElem_toArray, List.getElem_cons_succ, List.getElem_cons_zero, Act.put, List.setIfInBounds_toArray, List.set_cons_zero, List.set_cons_succ]
              refine tk 25 rfl (by kernel_rfl) hHeld (fun _ _ _ h => h) (v := ?_) ?_ ?_
              rotate_left 1
              · (intro w hSw; (try dsimp only at hSw); (try simp only [List.getElem_toArray, List.getElem_cons_succ, List.getElem_cons_zero]); go_simp) <;> (with_reducible rfl)
              try simp only [List.getElem_toArray, List.getElem_cons_succ, List.getElem_cons_zero, Act.put, List.setIfInBounds_toArray, List.set_cons_zero, List.set_cons_succ]
              refine tk 26 rfl (by kernel_rfl) hHeld (fun _ _ _ h => h) (v := ?_) ?_ ?_
              rotate_left 1
              · (intro w hSw; (try dsimp only at hSw); (try simp only [List.getElem_toArray, List.getElem_cons_succ, List.getElem_cons_zero]); go_simp) <;> (with_reducible rfl)
              try simp only [List.getElem_toArray, List.getElem_cons_succ, List.getElem_cons_zero, Act.put, List.setIfInBounds_toArray, List.set_cons_zero, List.set_cons_succ]
              refine tk 27 rfl (by kernel_rfl) hHeld (fun _ _ _ h => h) (v := ?_) ?_ ?_
              rotate_left 1
              · (intro w hSw; (try dsimp only at hSw); (try simp only [List.getElem_toArray, List.getElem_cons_succ, List.getElem_cons_zero]); go_simp) <;> (with_reducible rfl)
              try simp only [List.getElem_toArray, List.getElem_cons_succ, List.getElem_cons_zero, Act.put, List.setIfInBounds_toArray, List.set_cons_zero, List.set_cons_succ]
              refine tk 28 rfl (by kernel_rfl) hHeld (fun _ _ _ h => h) (v := ?_) ?_ ?_
              rotate_left 1
              · (intro w hSw; (try dsimp only at hSw); (try simp only [List.getElem_toArray, List.getElem_cons_succ, List.getElem_cons_zero]); go_simp) <;> (with_reducible rfl)
              try simp only [List.getElem_toArray, List.getElem_cons_succ, List.getElem_cons_zero, Act.put, List.setIfInBounds_toArray, List.set_cons_zero, List.set_cons_succ]
              refine tk 29 rfl (by kernel_rfl) hHeld (fun _ _ _ h => h) (v := ?_) ?_ ?_
              rotate_left 1
              · (intro w hSw; (try dsimp only at hSw); (try simp only [List.getElem_toArray, List.getElem_cons_succ, List.getElem_cons_zero]); go_simp) <;> (with_reducible rfl)
              try simp only [List.getElem_toArray, List.getElem_cons_succ, List.getElem_cons_zero, Act.put, List.setIfInBounds_toArray, List.set_cons_zero, List.set_cons_succ]
              refine tk 30 rfl (by kernel_rfl) hHeld (fun _ _ _ h => h) (v := ?_) ?_ ?_
              rotate_left 1
              · (intro w hSw; (try dsimp only at hSw); (try simp only [List.getElem_toArray, List.getElem_cons_succ, List.getElem_cons_zero]); go_simp) <;> (with_reducible rfl)
              try simp only [List.getElem_toArray, List.getElem_cons_succ, List.getElem_cons_zero, Act.put, List.setIfInBounds_toArray, List.set_cons_zero, List.set_cons_succ]
              refine wpAnyH_done (by kernel_rfl) ?_ _
              have BQ := Lib.hid hHeld.2.2.2.2.2.2.2.2.2.2
              have VQ := Lib.hid hHeld.2.2.2.2.2.2.2.2.2.1
              clear CELL BLA BLF
              have z0 := hHeld.1
              have z1 := hHeld.2.1
              clear hHeld
              go_wp2_with fail
              obtain ⟨wo, hwo⟩ : ∃ wo, wr = wo := ⟨_, rfl⟩
              rw [hwo] at BQ hb3 HBR
              clear hwo z0 z1
              go_loopw [9] (fun i wi => ∃ j : Nat, i = .int .i64 j ∧ a ≤ j ∧ j + 1 ≤ d ∧ Hid (Below Bx wo wi) ∧ Hid (wi.heap[Bx]? = some (.cells #[.int .i64 a, .int .i64 d] 34 (0, 0)))) (fun i _ => d - (intOf i).toNat)
              case atStart => exact ⟨a, rfl, Nat.le_refl _, by omega, BQ, VQ⟩
              case round =>
                clear BQ VQ
                obtain ⟨j, rfl, hj1, hj2, hb5, hv5⟩ := hrel
                have y0 := cell_of_block_ (i := 0) hv5.out
                have y1 := cell_of_block_ (i := 1) hv5.out
                simp at y0 y1
                have hj0 : (0 : Int) ≤ (j : Int) := by omega
                by_cases hjd : j + 1 < d
                · obtain ⟨x0, x1, x2⟩ := GL.out _ j (HBR.out.trans (hb5.out.mono HBW.out)) (by omega)
                  have sj := SZ.out j (by omega)
                  have h3 := M5.out j hj1 hjd
                  have HK : S.kd gs j = S.kind (gs.getD j default).t := rfl
                  rw [HK] at h3
                  have BJ := blank_any (gs.getD j default).t (gs.getD j default).wd (gs.getD j default).st wr sj
                  have hjl : (j : Int) < (gs.length : Int) := by omega
                  have hjl2 : (j : Int) + 1 < (gs.length : Int) := by omega
                  by_cases hkj : S.kind (gs.getD j default).t = 0
                  · have sj1 := SZ.out (j + 1) (by omega)
                    have hk1 : (S.kind (gs.getD (j + 1) default).t == 0) = false := beq_eq_false_iff_ne.2 (h3 hkj)
                    have BJ1 := fun w1 => blank_any (gs.getD (j + 1) default).t (gs.getD (j + 1) default).wd (gs.getD (j + 1) default).st w1 sj1
                    rw [hk1] at BJ1
                    have hkb : (S.kind (gs.getD j default).t == 0) = true := beq_iff_eq.2 hkj
                    rw [hkb] at BJ
                    have GJ := Lib.hid (fun w1 (h : Below w.heap.size w w1) => GL.out w1 (j + 1) h (by omega))
                    replace BJ := Lib.hid BJ
                    replace BJ1 := Lib.hid BJ1
                    clear h3 hkj HK hkb hk1 sj sj1
                    generalize gs.getD j default = gj at *
                    generalize gs.getD (j + 1) default = gj1 at *
                    go_wp2_with fail
                    refine BJ.out.mono ?_
                    rintro e w3 ⟨rfl, h6⟩
                    have hb6 := Lib.hid (hb5.out.trans (h6.mono (Nat.le_of_lt (Array.getElem?_eq_some_iff.1 hv5.out).1)))
                    have hv6 := Lib.hid ((h6.block Bx (Array.getElem?_eq_some_iff.1 hv5.out).1).trans hv5.out)
                    obtain ⟨g0, g1, g2⟩ := GJ.out w3 (HBR.out.trans (hb6.out.mono HBW.out))
                    have BJ2 := Lib.hid (BJ1.out w3)
                    clear BJ BJ1 h6 x0 x1 x2
                    go_wp2_with fail
                    refine BJ2.out.mono ?_
                    rintro e w4 ⟨rfl, h7⟩
                    have hb7 := Lib.hid (hb6.out.trans (h7.mono (Nat.le_of_lt (Array.getElem?_eq_some_iff.1 hv6.out).1)))
                    have hv7 := Lib.hid ((h7.block Bx (Array.getElem?_eq_some_iff.1 hv6.out).1).trans hv6.out)
                    clear BJ2 h7 g0 g1 g2
                    go_wp2_with fail
                    exact ⟨⟨j + 1, by go_num, by omega, hjd, hb7, hv7⟩, by simp [intOf]; omega⟩
                  · have hkb : (S.kind (gs.getD j default).t == 0) = false := beq_eq_false_iff_ne.2 hkj
                    rw [hkb] at BJ
                    replace BJ := Lib.hid BJ
                    clear h3 hkj HK hkb sj
                    generalize gs.getD j default = gj at *
                    go_wp2_with fail
                    refine BJ.out.mono ?_
                    rintro e w3 ⟨rfl, h6⟩
                    have hb6 := Lib.hid (hb5.out.trans (h6.mono (Nat.le_of_lt (Array.getElem?_eq_some_iff.1 hv5.out).1)))
                    have hv6 := Lib.hid ((h6.block Bx (Array.getElem?_eq_some_iff.1 hv5.out).1).trans hv5.out)
                    clear BJ h6 x0 x1 x2
                    go_wp2_with fail
                    exact ⟨⟨j + 1, by go_num, by omega, hjd, hb6, hv6⟩, by simp [intOf]; omega⟩
                · have hjq : decide (j + 1 < d) = false := decide_eq_false hjd
                  go_wp2_with fail
                  exact ⟨⟨k + 1, hlt, by go_num, Lib.hid (hb3.out.trans (hb5.out.mono HBX.out))⟩, by simp [intOf]; omega⟩
          · obtain rfl : k = fs.length := by omega
            have q2 : decide (fs.length < fs.length) = false := decide_eq_false (by omega)
            go_wp2_with fail
            refine (awake_any _).mono ?_
            rintro e w5 ⟨rfl, b5⟩
            go_wp2_with fail
            go_ret
            exact ⟨rfl, hbr.trans (b5.mono hbr.size)⟩
  · rw [hgr] at HG
    clear hgr hrow
    go_enter Try.func5, Try.ntmps5
    go_wp2_with fail
    refine HG.out.mono ?_
    rintro e w0 ⟨rfl, rfl⟩
    go_wp2_with fail
    refine (awake_any _).mono ?_
    rintro e w5 ⟨rfl, b5⟩
    go_wp2_with fail
    go_ret
    exact ⟨rfl, b5⟩
end Go.Proofs.Ythfpiomooomhoaa
