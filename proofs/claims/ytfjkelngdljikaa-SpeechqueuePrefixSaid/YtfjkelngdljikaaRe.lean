/-
  The walks of layer 44: Rest. By an AI agent.
-/
import Derived.Test.YtfjkelngdljikaaQr
import Derived.Deep.RegionHeld3
namespace Go.Proofs.Ytfjkelngdljikaa
set_option linter.unusedVariables false
set_option linter.unusedSimpArgs false
open Go.RowKit Go.Joins Go.Deep

namespace Q
/-- The end of all, as Rest reckons it. -/
def rst (r : Int) : Int → List Ut → Int
  | now, [] => now
  | now, u :: l => if 2199023255552 < now then now else rst r (max now u.af + dur r u) l
/-- When it begins. -/
def from_ (a : Qa) : Int := if a.sp = true then a.en else a.clock
theorem rst_bd {r : Int} : ∀ (l : List Ut) (now : Int), (∀ u ∈ l, Small u) → (∀ u ∈ l, 0 ≤ u.af ∧ u.af ≤ 1099511627776) → 0 ≤ now → now ≤ 2199023386112 → 0 ≤ rst r now l ∧ rst r now l ≤ 2199023386112
  | [], now, _, _, h0, h1 => ⟨h0, h1⟩
  | u :: l, now, hs, ha, h0, h1 => by
    rw [rst]
    split
    · exact ⟨h0, h1⟩
    · have d := Small.dur (hs u (by simp)) r
      have a := ha u (by simp)
      refine rst_bd l _ (fun v hv => hs v (List.mem_cons_of_mem _ hv)) (fun v hv => ha v (List.mem_cons_of_mem _ hv)) ?_ ?_ <;> omega
end Q
set_option maxRecDepth 100000 in
set_option maxHeartbeats 1000000 in
theorem rest_any (q : Q.Qm) (B : Nat) (w : World) (h : Q.QIn w B q) (hB : B ≤ w.heap.size) (hl : q.items.length ≤ 16) (hs : ∀ m ∈ q.items, Q.Small m.u) (ha : ∀ m ∈ q.items, 0 ≤ m.u.af ∧ m.u.af ≤ 1099511627776) (h0 : 0 ≤ Q.from_ q.a) (h1 : Q.from_ q.a ≤ 2199023386112) :
    Calls Try.prog 27 #[.agg q.cells.toArray] w fun e w' => e = .returned (.int .i64 (min (Q.rst q.rate (Q.from_ q.a) q.a.items) 2199023255552)) ∧ Below w.heap.size w w' := by
  obtain ⟨ck, rt, sp, ⟨⟨p0, p1, p2, p3, p4⟩, a0, c0, a1, c1⟩, be, en, items, ai, ci⟩ := q
  obtain ⟨_, hits, hi⟩ := h
  simp only [Q.Qm.a] at h0 h1 ⊢
  simp only at hits hl hs ha
  simp only [Q.Qm.cells]
  obtain ⟨st, hst⟩ : ∃ st, Q.from_ ⟨ck, rt, sp, ⟨p0, p1, p2, p3, p4⟩, be, en, items.map (·.u)⟩ = st := ⟨_, rfl⟩
  rw [hst] at h0 h1 ⊢
  have HST : Hid ((if sp = true then en else ck) = st) := Lib.hid (by rw [← hst]; rfl)
  have V0 := Lib.hid (heap_alloc_new w (.cells #[.int .i64 ck, .int .i64 rt, .bool sp, .slice a0 p0.length c0, .slice a1 p1.length c1, .int .i64 p2, .int .i64 p3, .int .i64 p4, .int .i64 be, .int .i64 en, .slice ai items.length ci] 28))
  have b0 := Lib.hid (below_box w (.cells #[.int .i64 ck, .int .i64 rt, .bool sp, .slice a0 p0.length c0, .slice a1 p1.length c1, .int .i64 p2, .int .i64 p3, .int .i64 p4, .int .i64 be, .int .i64 en, .slice ai items.length ci] 28))
  have IX := Lib.hid hits
  have HS := Lib.hid hs
  have HA := Lib.hid ha
  have LOOP : Hid (∀ st', st' = st → True) := Lib.hid (fun _ _ => trivial)
  clear hits hs ha hst LOOP
  cases sp with
  | true =>
    have he : en = st := HST.out
    subst he
    go_enter Try.func27, Try.ntmps27
    go_wp2_with fail
    go_loopw [3, 15] (fun n i wr => ∃ (k : Nat) (now : Int), k ≤ items.length ∧ i = .int .i64 k ∧ n = .int .i64 now ∧ Hid (Q.rst rt now ((items.map (·.u)).drop k) = Q.rst rt en (items.map (·.u))) ∧ 0 ≤ now ∧ now ≤ 2199023386112 ∧ Hid (wr.heap[w.heap.size]? = some (.cells #[.int .i64 ck, .int .i64 rt, .bool true, .slice a0 p0.length c0, .slice a1 p1.length c1, .int .i64 p2, .int .i64 p3, .int .i64 p4, .int .i64 be, .int .i64 en, .slice ai items.length ci] 28 (0, 0))) ∧ Hid (Below w.heap.size w wr)) (fun _ i _ => items.length - (intOf i).toNat)
    case atStart => exact ⟨0, en, Nat.zero_le _, rfl, rfl, Lib.hid rfl, h0, h1, V0, b0⟩
    case round =>
      clear V0 b0
      obtain ⟨k, now, hk, rfl, rfl, HR, n0, n1, V, bw⟩ := hrel
      have hNs : w.heap.size < wr.heap.size := (Array.getElem?_eq_some_iff.1 V.out).1
      by_cases hlt : k < items.length
      · have HIN := IX.out.below bw.out hB
        obtain ⟨b, off, rfl, hbB, hcl⟩ := Q.reads_at HIN.row (by omega)
        obtain ⟨z0, z1, z2, z3, z4⟩ := hcl k hlt
        have HX := Lib.hid (HIN.el items[k] (List.getElem_mem hlt))
        have SX := HS.out items[k] (List.getElem_mem hlt)
        have AX := HA.out items[k] (List.getElem_mem hlt)
        have DX := Q.Small.dur SX rt
        have q1 : (0 : Int) ≤ (k : Int) := by omega
        have q2 : (k : Int) < (items.length : Int) := by omega
        have HD : (items.map (·.u)).drop k = items[k].u :: (items.map (·.u)).drop (k + 1) := by
          rw [List.drop_eq_getElem_cons (by simpa using hlt), List.getElem_map]
        rw [HD] at HR
        have hbw : b < wr.heap.size := by omega
        obtain ⟨x, hx⟩ : ∃ x, items[k] = x := ⟨_, rfl⟩
        rw [hx] at z0 z1 z2 z3 z4 HX SX AX DX HR
        have WD := fun (W : World) (hw' : Below wr.heap.size wr W) => words_any x.aw x.cw B x.u.words rt W (HX.out.w.below hw' (by omega)) (Nat.le_trans (by omega) hw'.size) (Nat.le_trans SX.1 (by decide)) (fun s hs => Nat.le_trans (SX.2.2.1 s hs) (by decide))
        replace WD := Lib.hid WD
        obtain ⟨⟨u0, u1, u2, u3, u4⟩, a0', c0', a1', c1'⟩ := x
        simp only at z0 z1 z2 z3 z4 WD AX
        simp only [Q.dur] at DX
        clear hcl hx SX HIN HD
        by_cases hgt : 2199023255552 < now
        · have hd : decide (2199023255552 < now) = true := decide_eq_true hgt
          have HE : Hid (Q.rst rt en (items.map (·.u)) = now) := Lib.hid (by rw [← HR.out, Q.rst, if_pos hgt])
          go_wp2_with fail
          go_ret
          refine ⟨ret_int ?_, (bw.out.alloc (by omega) _)⟩
          rw [HE.out]
          omega
        · have hd : decide (2199023255552 < now) = false := decide_eq_false hgt
          have HE : Hid (Q.rst rt (max now u3 + D.words (u0.map (·.size)) rt) ((items.map (·.u)).drop (k + 1)) = Q.rst rt en (items.map (·.u))) := Lib.hid (by rw [← HR.out, Q.rst, if_neg hgt]; rfl)
          clear HR
          go_wp2_with fail
          obtain ⟨wa, hwa⟩ : ∃ wa, (wr.alloc (.cells #[.slice a0' u0.length c0', .slice a1' u1.length c1', .int .i64 u2, .int .i64 u3, .int .i64 u4] 25)) = wa := ⟨_, rfl⟩
          have VA := Lib.hid (heap_alloc_new wr (.cells #[.slice a0' u0.length c0', .slice a1' u1.length c1', .int .i64 u2, .int .i64 u3, .int .i64 u4] 25))
          have VN := Lib.hid (heap_old2 wr (.cells #[.slice a0' u0.length c0', .slice a1' u1.length c1', .int .i64 u2, .int .i64 u3, .int .i64 u4] 25) V.out)
          have BA := Lib.hid (below_box wr (.cells #[.slice a0' u0.length c0', .slice a1' u1.length c1', .int .i64 u2, .int .i64 u3, .int .i64 u4] 25))
          rw [hwa] at VA VN BA ⊢
          clear hwa z0 z1 z2 z3 z4
          obtain ⟨dv, hdv⟩ : ∃ dv, D.words (u0.map (·.size)) rt = dv := ⟨_, rfl⟩
          rw [hdv] at WD HE DX
          clear hdv
          have x1 := cell_of_block_ (i := 1) VN.out
          have x0 := cell_of_block_ (i := 0) VA.out
          have x3 := cell_of_block_ (i := 3) VA.out
          simp at x1 x0 x3
          have sA : wr.heap.size < wa.heap.size := (Array.getElem?_eq_some_iff.1 VA.out).1
          have sN : w.heap.size < wa.heap.size := by omega
          have S0 : wa.drew.cell? ⟨w.heap.size, 1, none⟩ = some (.int .i64 rt) ∧ wa.drew.cell? ⟨wr.heap.size, 0, none⟩ = some (.slice a0' u0.length c0') ∧ wa.drew.cell? ⟨wr.heap.size, 3, none⟩ = some (.int .i64 u3) ∧ Below wa.heap.size wa wa.drew := ⟨x1, x0, x3, (Below.refl _ _).drew⟩
          have K1 : Hid (∀ w' : World, (w'.cell? ⟨w.heap.size, 1, none⟩ = some (.int .i64 rt) ∧ w'.cell? ⟨wr.heap.size, 0, none⟩ = some (.slice a0' u0.length c0') ∧ w'.cell? ⟨wr.heap.size, 3, none⟩ = some (.int .i64 u3) ∧ Below wa.heap.size wa w') → Calls Try.prog 30 #[.slice a0' u0.length c0', .int .i64 rt] w' fun e w'' => e = .returned (.int .i64 dv) ∧ (w''.cell? ⟨w.heap.size, 1, none⟩ = some (.int .i64 rt) ∧ w''.cell? ⟨wr.heap.size, 0, none⟩ = some (.slice a0' u0.length c0') ∧ w''.cell? ⟨wr.heap.size, 3, none⟩ = some (.int .i64 u3) ∧ Below wa.heap.size wa w'')) := Lib.hid (fun w' ⟨y1, y0, y3, yb⟩ => (WD.out w' (BA.out.trans (yb.mono BA.out.size))).mono fun e w'' ⟨e1, b1⟩ => ⟨e1, (b1.cell (Nat.lt_of_lt_of_le sN yb.size)).trans y1, (b1.cell (Nat.lt_of_lt_of_le sA yb.size)).trans y0, (b1.cell (Nat.lt_of_lt_of_le sA yb.size)).trans y3, yb.trans (b1.mono yb.size)⟩)
          rcases Int.lt_or_le now u3 with hm | hm
          · have e1 : max now u3 = u3 := by omega
            have m1 : decide (now < u3) = true := decide_eq_true hm
            have m2 : ¬ u3 ≤ now := by omega
            have HE2 : Hid (Q.rst rt (u3 + dv) ((items.map (·.u)).drop (k + 1)) = Q.rst rt en (items.map (·.u))) := Lib.hid (by rw [← HE.out, e1])
            have u5 : IntKind.i64.wrap (u3 + dv) = u3 + dv := by simp [IntKind.wrap, IntKind.bits, IntKind.signed]; omega
            clear HE
            go_region_held3 (fun w' => w'.cell? ⟨w.heap.size, 1, none⟩ = some (.int .i64 rt) ∧ w'.cell? ⟨wr.heap.size, 0, none⟩ = some (.slice a0' u0.length c0') ∧ w'.cell? ⟨wr.heap.size, 3, none⟩ = some (.int .i64 u3) ∧ Below wa.heap.size wa w') (first | assumption | exact S0) (first | (go_at_call 30; (with_reducible refine (K1.out _ ?_).mono ?_); (first | assumption | exact S0); rintro e' w' ⟨rfl, hS⟩))
            all_goals
              obtain ⟨_, _, _, yb⟩ := hS
              have V9 := Lib.hid ((yb.block w.heap.size sN).trans VN.out)
              have B9 := Lib.hid (bw.out.trans ((BA.out.trans (yb.mono BA.out.size)).mono (by omega)))
              go_wp2_with fail
              exact ⟨⟨k + 1, u3 + dv, hlt, by go_num, rfl, HE2, by omega, by omega, V9, B9⟩, by simp [intOf]; omega⟩
          · have e1 : max now u3 = now := by omega
            have m1 : decide (now < u3) = false := decide_eq_false (by omega)
            have m2 : ¬ now < u3 := by omega
            have e3 : (if now < u3 then u3 else now) = now := if_neg m2
            have HE2 : Hid (Q.rst rt (now + dv) ((items.map (·.u)).drop (k + 1)) = Q.rst rt en (items.map (·.u))) := Lib.hid (by rw [← HE.out, e1])
            have u5 : IntKind.i64.wrap (now + dv) = now + dv := by simp [IntKind.wrap, IntKind.bits, IntKind.signed]; omega
            clear HE
            go_region_held3 (fun w' => w'.cell? ⟨w.heap.size, 1, none⟩ = some (.int .i64 rt) ∧ w'.cell? ⟨wr.heap.size, 0, none⟩ = some (.slice a0' u0.length c0') ∧ w'.cell? ⟨wr.heap.size, 3, none⟩ = some (.int .i64 u3) ∧ Below wa.heap.size wa w') (first | assumption | exact S0) (first | (go_at_call 30; (with_reducible refine (K1.out _ ?_).mono ?_); (first | assumption | exact S0); rintro e' w' ⟨rfl, hS⟩))
            all_goals
              obtain ⟨_, _, _, yb⟩ := hS
              have V9 := Lib.hid ((yb.block w.heap.size sN).trans VN.out)
              have B9 := Lib.hid (bw.out.trans ((BA.out.trans (yb.mono BA.out.size)).mono (by omega)))
              go_wp2_with fail
              exact ⟨⟨k + 1, now + dv, hlt, by go_num, rfl, HE2, by omega, by omega, V9, B9⟩, by simp [intOf]; omega⟩
      · obtain rfl : k = items.length := by omega
        have q2 : decide (items.length < items.length) = false := decide_eq_false (by omega)
        have HE : Hid (Q.rst rt en (items.map (·.u)) = now) := Lib.hid (by rw [← HR.out, List.drop_of_length_le (by simp)]; rfl)
        go_wp2_with fail
        all_goals
          go_ret
          refine ⟨ret_int ?_, bw.out⟩
          rw [HE.out]
          omega
  | false =>
    have he : ck = st := HST.out
    subst he
    go_enter Try.func27, Try.ntmps27
    go_wp2_with fail
    go_loopw [3, 15] (fun n i wr => ∃ (k : Nat) (now : Int), k ≤ items.length ∧ i = .int .i64 k ∧ n = .int .i64 now ∧ Hid (Q.rst rt now ((items.map (·.u)).drop k) = Q.rst rt ck (items.map (·.u))) ∧ 0 ≤ now ∧ now ≤ 2199023386112 ∧ Hid (wr.heap[w.heap.size]? = some (.cells #[.int .i64 ck, .int .i64 rt, .bool false, .slice a0 p0.length c0, .slice a1 p1.length c1, .int .i64 p2, .int .i64 p3, .int .i64 p4, .int .i64 be, .int .i64 en, .slice ai items.length ci] 28 (0, 0))) ∧ Hid (Below w.heap.size w wr)) (fun _ i _ => items.length - (intOf i).toNat)
    case atStart => exact ⟨0, ck, Nat.zero_le _, rfl, rfl, Lib.hid rfl, h0, h1, V0, b0⟩
    case round =>
      clear V0 b0
      obtain ⟨k, now, hk, rfl, rfl, HR, n0, n1, V, bw⟩ := hrel
      have hNs : w.heap.size < wr.heap.size := (Array.getElem?_eq_some_iff.1 V.out).1
      by_cases hlt : k < items.length
      · have HIN := IX.out.below bw.out hB
        obtain ⟨b, off, rfl, hbB, hcl⟩ := Q.reads_at HIN.row (by omega)
        obtain ⟨z0, z1, z2, z3, z4⟩ := hcl k hlt
        have HX := Lib.hid (HIN.el items[k] (List.getElem_mem hlt))
        have SX := HS.out items[k] (List.getElem_mem hlt)
        have AX := HA.out items[k] (List.getElem_mem hlt)
        have DX := Q.Small.dur SX rt
        have q1 : (0 : Int) ≤ (k : Int) := by omega
        have q2 : (k : Int) < (items.length : Int) := by omega
        have HD : (items.map (·.u)).drop k = items[k].u :: (items.map (·.u)).drop (k + 1) := by
          rw [List.drop_eq_getElem_cons (by simpa using hlt), List.getElem_map]
        rw [HD] at HR
        have hbw : b < wr.heap.size := by omega
        obtain ⟨x, hx⟩ : ∃ x, items[k] = x := ⟨_, rfl⟩
        rw [hx] at z0 z1 z2 z3 z4 HX SX AX DX HR
        have WD := fun (W : World) (hw' : Below wr.heap.size wr W) => words_any x.aw x.cw B x.u.words rt W (HX.out.w.below hw' (by omega)) (Nat.le_trans (by omega) hw'.size) (Nat.le_trans SX.1 (by decide)) (fun s hs => Nat.le_trans (SX.2.2.1 s hs) (by decide))
        replace WD := Lib.hid WD
        obtain ⟨⟨u0, u1, u2, u3, u4⟩, a0', c0', a1', c1'⟩ := x
        simp only at z0 z1 z2 z3 z4 WD AX
        simp only [Q.dur] at DX
        clear hcl hx SX HIN HD
        by_cases hgt : 2199023255552 < now
        · have hd : decide (2199023255552 < now) = true := decide_eq_true hgt
          have HE : Hid (Q.rst rt ck (items.map (·.u)) = now) := Lib.hid (by rw [← HR.out, Q.rst, if_pos hgt])
          go_wp2_with fail
          go_ret
          refine ⟨ret_int ?_, (bw.out.alloc (by omega) _)⟩
          rw [HE.out]
          omega
        · have hd : decide (2199023255552 < now) = false := decide_eq_false hgt
          have HE : Hid (Q.rst rt (max now u3 + D.words (u0.map (·.size)) rt) ((items.map (·.u)).drop (k + 1)) = Q.rst rt ck (items.map (·.u))) := Lib.hid (by rw [← HR.out, Q.rst, if_neg hgt]; rfl)
          clear HR
          go_wp2_with fail
          obtain ⟨wa, hwa⟩ : ∃ wa, (wr.alloc (.cells #[.slice a0' u0.length c0', .slice a1' u1.length c1', .int .i64 u2, .int .i64 u3, .int .i64 u4] 25)) = wa := ⟨_, rfl⟩
          have VA := Lib.hid (heap_alloc_new wr (.cells #[.slice a0' u0.length c0', .slice a1' u1.length c1', .int .i64 u2, .int .i64 u3, .int .i64 u4] 25))
          have VN := Lib.hid (heap_old2 wr (.cells #[.slice a0' u0.length c0', .slice a1' u1.length c1', .int .i64 u2, .int .i64 u3, .int .i64 u4] 25) V.out)
          have BA := Lib.hid (below_box wr (.cells #[.slice a0' u0.length c0', .slice a1' u1.length c1', .int .i64 u2, .int .i64 u3, .int .i64 u4] 25))
          rw [hwa] at VA VN BA ⊢
          clear hwa z0 z1 z2 z3 z4
          obtain ⟨dv, hdv⟩ : ∃ dv, D.words (u0.map (·.size)) rt = dv := ⟨_, rfl⟩
          rw [hdv] at WD HE DX
          clear hdv
          have x1 := cell_of_block_ (i := 1) VN.out
          have x0 := cell_of_block_ (i := 0) VA.out
          have x3 := cell_of_block_ (i := 3) VA.out
          simp at x1 x0 x3
          have sA : wr.heap.size < wa.heap.size := (Array.getElem?_eq_some_iff.1 VA.out).1
          have sN : w.heap.size < wa.heap.size := by omega
          have S0 : wa.drew.cell? ⟨w.heap.size, 1, none⟩ = some (.int .i64 rt) ∧ wa.drew.cell? ⟨wr.heap.size, 0, none⟩ = some (.slice a0' u0.length c0') ∧ wa.drew.cell? ⟨wr.heap.size, 3, none⟩ = some (.int .i64 u3) ∧ Below wa.heap.size wa wa.drew := ⟨x1, x0, x3, (Below.refl _ _).drew⟩
          have K1 : Hid (∀ w' : World, (w'.cell? ⟨w.heap.size, 1, none⟩ = some (.int .i64 rt) ∧ w'.cell? ⟨wr.heap.size, 0, none⟩ = some (.slice a0' u0.length c0') ∧ w'.cell? ⟨wr.heap.size, 3, none⟩ = some (.int .i64 u3) ∧ Below wa.heap.size wa w') → Calls Try.prog 30 #[.slice a0' u0.length c0', .int .i64 rt] w' fun e w'' => e = .returned (.int .i64 dv) ∧ (w''.cell? ⟨w.heap.size, 1, none⟩ = some (.int .i64 rt) ∧ w''.cell? ⟨wr.heap.size, 0, none⟩ = some (.slice a0' u0.length c0') ∧ w''.cell? ⟨wr.heap.size, 3, none⟩ = some (.int .i64 u3) ∧ Below wa.heap.size wa w'')) := Lib.hid (fun w' ⟨y1, y0, y3, yb⟩ => (WD.out w' (BA.out.trans (yb.mono BA.out.size))).mono fun e w'' ⟨e1, b1⟩ => ⟨e1, (b1.cell (Nat.lt_of_lt_of_le sN yb.size)).trans y1, (b1.cell (Nat.lt_of_lt_of_le sA yb.size)).trans y0, (b1.cell (Nat.lt_of_lt_of_le sA yb.size)).trans y3, yb.trans (b1.mono yb.size)⟩)
          rcases Int.lt_or_le now u3 with hm | hm
          · have e1 : max now u3 = u3 := by omega
            have m1 : decide (now < u3) = true := decide_eq_true hm
            have m2 : ¬ u3 ≤ now := by omega
            have HE2 : Hid (Q.rst rt (u3 + dv) ((items.map (·.u)).drop (k + 1)) = Q.rst rt ck (items.map (·.u))) := Lib.hid (by rw [← HE.out, e1])
            have u5 : IntKind.i64.wrap (u3 + dv) = u3 + dv := by simp [IntKind.wrap, IntKind.bits, IntKind.signed]; omega
            clear HE
            go_region_held3 (fun w' => w'.cell? ⟨w.heap.size, 1, none⟩ = some (.int .i64 rt) ∧ w'.cell? ⟨wr.heap.size, 0, none⟩ = some (.slice a0' u0.length c0') ∧ w'.cell? ⟨wr.heap.size, 3, none⟩ = some (.int .i64 u3) ∧ Below wa.heap.size wa w') (first | assumption | exact S0) (first | (go_at_call 30; (with_reducible refine (K1.out _ ?_).mono ?_); (first | assumption | exact S0); rintro e' w' ⟨rfl, hS⟩))
            all_goals
              obtain ⟨_, _, _, yb⟩ := hS
              have V9 := Lib.hid ((yb.block w.heap.size sN).trans VN.out)
              have B9 := Lib.hid (bw.out.trans ((BA.out.trans (yb.mono BA.out.size)).mono (by omega)))
              go_wp2_with fail
              exact ⟨⟨k + 1, u3 + dv, hlt, by go_num, rfl, HE2, by omega, by omega, V9, B9⟩, by simp [intOf]; omega⟩
          · have e1 : max now u3 = now := by omega
            have m1 : decide (now < u3) = false := decide_eq_false (by omega)
            have m2 : ¬ now < u3 := by omega
            have e3 : (if now < u3 then u3 else now) = now := if_neg m2
            have HE2 : Hid (Q.rst rt (now + dv) ((items.map (·.u)).drop (k + 1)) = Q.rst rt ck (items.map (·.u))) := Lib.hid (by rw [← HE.out, e1])
            have u5 : IntKind.i64.wrap (now + dv) = now + dv := by simp [IntKind.wrap, IntKind.bits, IntKind.signed]; omega
            clear HE
            go_region_held3 (fun w' => w'.cell? ⟨w.heap.size, 1, none⟩ = some (.int .i64 rt) ∧ w'.cell? ⟨wr.heap.size, 0, none⟩ = some (.slice a0' u0.length c0') ∧ w'.cell? ⟨wr.heap.size, 3, none⟩ = some (.int .i64 u3) ∧ Below wa.heap.size wa w') (first | assumption | exact S0) (first | (go_at_call 30; (with_reducible refine (K1.out _ ?_).mono ?_); (first | assumption | exact S0); rintro e' w' ⟨rfl, hS⟩))
            all_goals
              obtain ⟨_, _, _, yb⟩ := hS
              have V9 := Lib.hid ((yb.block w.heap.size sN).trans VN.out)
              have B9 := Lib.hid (bw.out.trans ((BA.out.trans (yb.mono BA.out.size)).mono (by omega)))
              go_wp2_with fail
              exact ⟨⟨k + 1, now + dv, hlt, by go_num, rfl, HE2, by omega, by omega, V9, B9⟩, by simp [intOf]; omega⟩
      · obtain rfl : k = items.length := by omega
        have q2 : decide (items.length < items.length) = false := decide_eq_false (by omega)
        have HE : Hid (Q.rst rt ck (items.map (·.u)) = now) := Lib.hid (by rw [← HR.out, List.drop_of_length_le (by simp)]; rfl)
        go_wp2_with fail
        all_goals
          go_ret
          refine ⟨ret_int ?_, bw.out⟩
          rw [HE.out]
          omega
end Go.Proofs.Ytfjkelngdljikaa
