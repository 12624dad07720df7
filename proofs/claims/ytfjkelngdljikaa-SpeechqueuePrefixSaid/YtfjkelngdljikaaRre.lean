/-
  The walks of layer 44: the reference's Rest. By an AI agent.
-/
import Derived.Test.YtfjkelngdljikaaRe
import Derived.Test.YtfjkelngdljikaaRr
namespace Go.Proofs.Ytfjkelngdljikaa
set_option linter.unusedVariables false
set_option linter.unusedSimpArgs false
open Go.RowKit Go.Joins Go.Deep

namespace Q
/-- The end of all, as the reference reckons it. -/
def rst2 (r : Int) : Int → List Ut → Int
  | now, [] => now
  | now, u :: l => rst2 r (min (max now u.af + dur r u) 2199023255552) l
theorem rst2_top {r : Int} : ∀ (l : List Ut), (∀ u ∈ l, Small u) → rst2 r 2199023255552 l = 2199023255552
  | [], _ => rfl
  | u :: l, hs => by
    have d := Small.dur (hs u (by simp)) r
    rw [rst2, show min (max 2199023255552 u.af + dur r u) 2199023255552 = 2199023255552 by omega]
    exact rst2_top l (fun v hv => hs v (List.mem_cons_of_mem _ hv))
/-- Both reckon the same. -/
theorem rst_same {r : Int} : ∀ (l : List Ut) (now : Int), (∀ u ∈ l, Small u) → min (rst r now l) 2199023255552 = rst2 r (min now 2199023255552) l
  | [], now, _ => rfl
  | u :: l, now, hs => by
    have d := Small.dur (hs u (by simp)) r
    have hs' : ∀ v ∈ l, Small v := fun v hv => hs v (List.mem_cons_of_mem _ hv)
    rw [rst, rst2]
    split
    · rename_i h
      rw [show min (max (min now 2199023255552) u.af + dur r u) 2199023255552 = 2199023255552 by omega, rst2_top l hs']
      omega
    · rename_i h
      rw [rst_same l _ hs', show min now 2199023255552 = now by omega]
end Q
set_option maxRecDepth 100000 in
set_option maxHeartbeats 1000000 in
theorem refrest_any (q : Q.Qm) (B : Nat) (w : World) (h : Q.QIn w B q) (hB : B ≤ w.heap.size) (hl : q.items.length ≤ 16) (hs : ∀ m ∈ q.items, Q.Small m.u) (ha : ∀ m ∈ q.items, 0 ≤ m.u.af ∧ m.u.af ≤ 1099511627776) (h0 : 0 ≤ Q.from_ q.a) (h1 : Q.from_ q.a ≤ 2199023255552) :
    Calls Try.prog 28 #[.agg q.cells.toArray] w fun e w' => e = .returned (.int .i64 (Q.rst2 q.rate (Q.from_ q.a) q.a.items)) ∧ Below w.heap.size w w' := by
  obtain ⟨ck, rt, sp, ⟨⟨p0, p1, p2, p3, p4⟩, a0, c0, a1, c1⟩, be, en, items, ai, ci⟩ := q
  obtain ⟨_, hits, hi⟩ := h
  simp only [Q.Qm.a] at h0 h1 ⊢
  simp only at hits hl hs ha
  simp only [Q.Qm.cells]
  obtain ⟨st, hst⟩ : ∃ st, Q.from_ ⟨ck, rt, sp, ⟨p0, p1, p2, p3, p4⟩, be, en, items.map (·.u)⟩ = st := ⟨_, rfl⟩
  rw [hst] at h0 h1 ⊢
  have HST : Hid ((if sp = true then en else ck) = st) := Lib.hid (by rw [← hst]; rfl)
  have V0 := Lib.hid (heap_alloc_new w (.cells #[.int .i64 ck, .int .i64 rt, .bool sp, .slice a0 p0.length c0, .slice a1 p1.length c1, .int .i64 p2, .int .i64 p3, .int .i64 p4, .int .i64 be, .int .i64 en, .slice ai items.length ci] 28))
  have b0 := Lib.hid (below_box w (.cells #[.int .i64 ck, .int .i64 rt, .bool sp, .slice a0 p0.length c0, .slice a1 p1.length c1, .int .i64 p2, .int .i64 p3, .int .i64 p4, .int .i64 be, .int .i64 en, .slice ai items.length ci] 28))
  have IX := Lib.hid hits
  have HS := Lib.hid hs
  have HA := Lib.hid ha
  clear hits hs ha hst
  cases sp with
  | true =>
    have he : en = st := HST.out
    subst he
    go_enter Try.func28, Try.ntmps28
    go_wp2_with fail
    go_loopw [3, 4] (fun n i wr => ∃ (k : Nat) (now : Int), k ≤ items.length ∧ i = .int .i64 k ∧ n = .int .i64 now ∧ Hid (Q.rst2 rt now ((items.map (·.u)).drop k) = Q.rst2 rt en (items.map (·.u))) ∧ 0 ≤ now ∧ now ≤ 2199023255552 ∧ Hid (wr.heap[w.heap.size]? = some (.cells #[.int .i64 ck, .int .i64 rt, .bool true, .slice a0 p0.length c0, .slice a1 p1.length c1, .int .i64 p2, .int .i64 p3, .int .i64 p4, .int .i64 be, .int .i64 en, .slice ai items.length ci] 28 (0, 0))) ∧ Hid (Below w.heap.size w wr)) (fun _ i _ => items.length - (intOf i).toNat)
    case atStart => exact ⟨0, en, Nat.zero_le _, rfl, rfl, Lib.hid rfl, h0, h1, V0, b0⟩
    case round =>
      clear V0 b0
      obtain ⟨k, now, hk, rfl, rfl, HR, n0, n1, V, bw⟩ := hrel
      have hNs : w.heap.size < wr.heap.size := (Array.getElem?_eq_some_iff.1 V.out).1
      have x1 := cell_of_block_ (i := 1) V.out
      have x10 := cell_of_block_ (i := 10) V.out
      simp at x1 x10
      by_cases hlt : k < items.length
      · have HIN := IX.out.below bw.out hB
        obtain ⟨b, off, rfl, hbB, hcl⟩ := Q.reads_at HIN.row (by omega)
        obtain ⟨z0, z1, z2, z3, z4⟩ := hcl k hlt
        have HX := Lib.hid (HIN.el items[k] (List.getElem_mem hlt))
        have SX := HS.out items[k] (List.getElem_mem hlt)
        have AX := HA.out items[k] (List.getElem_mem hlt)
        have DX := Q.Small.dur SX rt
        have q1 : (0 : Int) ≤ (k : Int) := by omega
        have q2 : (k : Int) < (items.length : Int) := by omega
        have HD : (items.map (·.u)).drop k = items[k].u :: (items.map (·.u)).drop (k + 1) := by
          rw [List.drop_eq_getElem_cons (by simpa using hlt), List.getElem_map]
        rw [HD] at HR
        obtain ⟨x, hx⟩ : ∃ x, items[k] = x := ⟨_, rfl⟩
        rw [hx] at z0 z1 z2 z3 z4 HX SX AX DX HR
        have WD := fun (n : Nat) => Calls.mono (refwords_any x.aw x.cw B x.u.words rt (wr.drewN n) (HX.out.w.drewN n) (Nat.le_trans SX.1 (by decide)) (fun s hs => Nat.le_trans (SX.2.2.1 s hs) (by decide))) (R' := fun e w' => e = .returned (.int .i64 (D.words (x.u.words.map (·.size)) rt)) ∧ ∃ m, w' = wr.drewN m) (fun e w' hh => ⟨hh.1, n, hh.2.symm⟩)
        replace WD := Lib.hid WD
        obtain ⟨⟨u0, u1, u2, u3, u4⟩, a0', c0', a1', c1'⟩ := x
        simp only at z0 z1 z2 z3 z4 WD AX
        simp only [Q.dur] at DX
        have HE : Hid (Q.rst2 rt (min (max now u3 + D.words (u0.map (·.size)) rt) 2199023255552) ((items.map (·.u)).drop (k + 1)) = Q.rst2 rt en (items.map (·.u))) := Lib.hid (by rw [← HR.out, Q.rst2]; rfl)
        obtain ⟨dv, hdv⟩ : ∃ dv, D.words (u0.map (·.size)) rt = dv := ⟨_, rfl⟩
        rw [hdv] at WD HE DX
        clear hcl hx SX HIN HD HR hdv
        go_wp2_with fail
        rcases Int.lt_or_le now u3 with hm | hm
        · by_cases hM : u3 + dv ≤ 2199023255552
          · have e1 : min (max now u3 + dv) 2199023255552 = u3 + dv := by omega
            have HE2 : Hid (Q.rst2 rt (u3 + dv) ((items.map (·.u)).drop (k + 1)) = Q.rst2 rt en (items.map (·.u))) := Lib.hid (by rw [← HE.out, e1])
            have u5 : IntKind.i64.wrap (u3 + dv) = u3 + dv := by simp [IntKind.wrap, IntKind.bits, IntKind.signed]; omega
            have e3 : (if now < u3 then u3 else now) = u3 := if_pos hm
            clear HE
            go_quiet ((go_at_call 47; exact WD.out _))
            go_wp2_with fail
            exact ⟨⟨k + 1, u3 + dv, hlt, by go_num, rfl, HE2, by omega, by omega, Lib.hid V.out, Lib.hid (below_drewN bw.out _)⟩, by simp [intOf]; omega⟩
          · have e1 : min (max now u3 + dv) 2199023255552 = 2199023255552 := by omega
            have HE2 : Hid (Q.rst2 rt (2199023255552) ((items.map (·.u)).drop (k + 1)) = Q.rst2 rt en (items.map (·.u))) := Lib.hid (by rw [← HE.out, e1])
            have u5 : IntKind.i64.wrap (u3 + dv) = u3 + dv := by simp [IntKind.wrap, IntKind.bits, IntKind.signed]; omega
            have e3 : (if now < u3 then u3 else now) = u3 := if_pos hm
            clear HE
            go_quiet ((go_at_call 47; exact WD.out _))
            go_wp2_with fail
            exact ⟨⟨k + 1, 2199023255552, hlt, by go_num, by rw [if_pos (by omega)], HE2, by omega, by omega, Lib.hid V.out, Lib.hid (below_drewN bw.out _)⟩, by simp [intOf]; omega⟩
        · by_cases hM : now + dv ≤ 2199023255552
          · have e1 : min (max now u3 + dv) 2199023255552 = now + dv := by omega
            have HE2 : Hid (Q.rst2 rt (now + dv) ((items.map (·.u)).drop (k + 1)) = Q.rst2 rt en (items.map (·.u))) := Lib.hid (by rw [← HE.out, e1])
            have u5 : IntKind.i64.wrap (now + dv) = now + dv := by simp [IntKind.wrap, IntKind.bits, IntKind.signed]; omega
            have e3 : (if now < u3 then u3 else now) = now := if_neg (by omega)
            clear HE
            go_quiet ((go_at_call 47; exact WD.out _))
            go_wp2_with fail
            exact ⟨⟨k + 1, now + dv, hlt, by go_num, rfl, HE2, by omega, by omega, Lib.hid V.out, Lib.hid (below_drewN bw.out _)⟩, by simp [intOf]; omega⟩
          · have e1 : min (max now u3 + dv) 2199023255552 = 2199023255552 := by omega
            have HE2 : Hid (Q.rst2 rt (2199023255552) ((items.map (·.u)).drop (k + 1)) = Q.rst2 rt en (items.map (·.u))) := Lib.hid (by rw [← HE.out, e1])
            have u5 : IntKind.i64.wrap (now + dv) = now + dv := by simp [IntKind.wrap, IntKind.bits, IntKind.signed]; omega
            have e3 : (if now < u3 then u3 else now) = now := if_neg (by omega)
            clear HE
            go_quiet ((go_at_call 47; exact WD.out _))
            go_wp2_with fail
            exact ⟨⟨k + 1, 2199023255552, hlt, by go_num, by rw [if_pos (by omega)], HE2, by omega, by omega, Lib.hid V.out, Lib.hid (below_drewN bw.out _)⟩, by simp [intOf]; omega⟩
      · obtain rfl : k = items.length := by omega
        have q2 : decide (items.length < items.length) = false := decide_eq_false (by omega)
        have HE : Hid (Q.rst2 rt en (items.map (·.u)) = now) := Lib.hid (by rw [← HR.out, List.drop_of_length_le (by simp)]; rfl)
        go_wp2_with fail
        go_ret
        exact ⟨ret_int HE.out.symm, bw.out⟩
  | false =>
    have he : ck = st := HST.out
    subst he
    go_enter Try.func28, Try.ntmps28
    go_wp2_with fail
    go_loopw [3, 4] (fun n i wr => ∃ (k : Nat) (now : Int), k ≤ items.length ∧ i = .int .i64 k ∧ n = .int .i64 now ∧ Hid (Q.rst2 rt now ((items.map (·.u)).drop k) = Q.rst2 rt ck (items.map (·.u))) ∧ 0 ≤ now ∧ now ≤ 2199023255552 ∧ Hid (wr.heap[w.heap.size]? = some (.cells #[.int .i64 ck, .int .i64 rt, .bool false, .slice a0 p0.length c0, .slice a1 p1.length c1, .int .i64 p2, .int .i64 p3, .int .i64 p4, .int .i64 be, .int .i64 en, .slice ai items.length ci] 28 (0, 0))) ∧ Hid (Below w.heap.size w wr)) (fun _ i _ => items.length - (intOf i).toNat)
    case atStart => exact ⟨0, ck, Nat.zero_le _, rfl, rfl, Lib.hid rfl, h0, h1, V0, b0⟩
    case round =>
      clear V0 b0
      obtain ⟨k, now, hk, rfl, rfl, HR, n0, n1, V, bw⟩ := hrel
      have hNs : w.heap.size < wr.heap.size := (Array.getElem?_eq_some_iff.1 V.out).1
      have x1 := cell_of_block_ (i := 1) V.out
      have x10 := cell_of_block_ (i := 10) V.out
      simp at x1 x10
      by_cases hlt : k < items.length
      · have HIN := IX.out.below bw.out hB
        obtain ⟨b, off, rfl, hbB, hcl⟩ := Q.reads_at HIN.row (by omega)
        obtain ⟨z0, z1, z2, z3, z4⟩ := hcl k hlt
        have HX := Lib.hid (HIN.el items[k] (List.getElem_mem hlt))
        have SX := HS.out items[k] (List.getElem_mem hlt)
        have AX := HA.out items[k] (List.getElem_mem hlt)
        have DX := Q.Small.dur SX rt
        have q1 : (0 : Int) ≤ (k : Int) := by omega
        have q2 : (k : Int) < (items.length : Int) := by omega
        have HD : (items.map (·.u)).drop k = items[k].u :: (items.map (·.u)).drop (k + 1) := by
          rw [List.drop_eq_getElem_cons (by simpa using hlt), List.getElem_map]
        rw [HD] at HR
        obtain ⟨x, hx⟩ : ∃ x, items[k] = x := ⟨_, rfl⟩
        rw [hx] at z0 z1 z2 z3 z4 HX SX AX DX HR
        have WD := fun (n : Nat) => Calls.mono (refwords_any x.aw x.cw B x.u.words rt (wr.drewN n) (HX.out.w.drewN n) (Nat.le_trans SX.1 (by decide)) (fun s hs => Nat.le_trans (SX.2.2.1 s hs) (by decide))) (R' := fun e w' => e = .returned (.int .i64 (D.words (x.u.words.map (·.size)) rt)) ∧ ∃ m, w' = wr.drewN m) (fun e w' hh => ⟨hh.1, n, hh.2.symm⟩)
        replace WD := Lib.hid WD
        obtain ⟨⟨u0, u1, u2, u3, u4⟩, a0', c0', a1', c1'⟩ := x
        simp only at z0 z1 z2 z3 z4 WD AX
        simp only [Q.dur] at DX
        have HE : Hid (Q.rst2 rt (min (max now u3 + D.words (u0.map (·.size)) rt) 2199023255552) ((items.map (·.u)).drop (k + 1)) = Q.rst2 rt ck (items.map (·.u))) := Lib.hid (by rw [← HR.out, Q.rst2]; rfl)
        obtain ⟨dv, hdv⟩ : ∃ dv, D.words (u0.map (·.size)) rt = dv := ⟨_, rfl⟩
        rw [hdv] at WD HE DX
        clear hcl hx SX HIN HD HR hdv
        go_wp2_with fail
        rcases Int.lt_or_le now u3 with hm | hm
        · by_cases hM : u3 + dv ≤ 2199023255552
          · have e1 : min (max now u3 + dv) 2199023255552 = u3 + dv := by omega
            have HE2 : Hid (Q.rst2 rt (u3 + dv) ((items.map (·.u)).drop (k + 1)) = Q.rst2 rt ck (items.map (·.u))) := Lib.hid (by rw [← HE.out, e1])
            have u5 : IntKind.i64.wrap (u3 + dv) = u3 + dv := by simp [IntKind.wrap, IntKind.bits, IntKind.signed]; omega
            have e3 : (if now < u3 then u3 else now) = u3 := if_pos hm
            clear HE
            go_quiet ((go_at_call 47; exact WD.out _))
            go_wp2_with fail
            exact ⟨⟨k + 1, u3 + dv, hlt, by go_num, rfl, HE2, by omega, by omega, Lib.hid V.out, Lib.hid (below_drewN bw.out _)⟩, by simp [intOf]; omega⟩
          · have e1 : min (max now u3 + dv) 2199023255552 = 2199023255552 := by omega
            have HE2 : Hid (Q.rst2 rt (2199023255552) ((items.map (·.u)).drop (k + 1)) = Q.rst2 rt ck (items.map (·.u))) := Lib.hid (by rw [← HE.out, e1])
            have u5 : IntKind.i64.wrap (u3 + dv) = u3 + dv := by simp [IntKind.wrap, IntKind.bits, IntKind.signed]; omega
            have e3 : (if now < u3 then u3 else now) = u3 := if_pos hm
            clear HE
            go_quiet ((go_at_call 47; exact WD.out _))
            go_wp2_with fail
            exact ⟨⟨k + 1, 2199023255552, hlt, by go_num, by rw [if_pos (by omega)], HE2, by omega, by omega, Lib.hid V.out, Lib.hid (below_drewN bw.out _)⟩, by simp [intOf]; omega⟩
        · by_cases hM : now + dv ≤ 2199023255552
          · have e1 : min (max now u3 + dv) 2199023255552 = now + dv := by omega
            have HE2 : Hid (Q.rst2 rt (now + dv) ((items.map (·.u)).drop (k + 1)) = Q.rst2 rt ck (items.map (·.u))) := Lib.hid (by rw [← HE.out, e1])
            have u5 : IntKind.i64.wrap (now + dv) = now + dv := by simp [IntKind.wrap, IntKind.bits, IntKind.signed]; omega
            have e3 : (if now < u3 then u3 else now) = now := if_neg (by omega)
            clear HE
            go_quiet ((go_at_call 47; exact WD.out _))
            go_wp2_with fail
            exact ⟨⟨k + 1, now + dv, hlt, by go_num, rfl, HE2, by omega, by omega, Lib.hid V.out, Lib.hid (below_drewN bw.out _)⟩, by simp [intOf]; omega⟩
          · have e1 : min (max now u3 + dv) 2199023255552 = 2199023255552 := by omega
            have HE2 : Hid (Q.rst2 rt (2199023255552) ((items.map (·.u)).drop (k + 1)) = Q.rst2 rt ck (items.map (·.u))) := Lib.hid (by rw [← HE.out, e1])
            have u5 : IntKind.i64.wrap (now + dv) = now + dv := by simp [IntKind.wrap, IntKind.bits, IntKind.signed]; omega
            have e3 : (if now < u3 then u3 else now) = now := if_neg (by omega)
            clear HE
            go_quiet ((go_at_call 47; exact WD.out _))
            go_wp2_with fail
            exact ⟨⟨k + 1, 2199023255552, hlt, by go_num, by rw [if_pos (by omega)], HE2, by omega, by omega, Lib.hid V.out, Lib.hid (below_drewN bw.out _)⟩, by simp [intOf]; omega⟩
      · obtain rfl : k = items.length := by omega
        have q2 : decide (items.length < items.length) = false := decide_eq_false (by omega)
        have HE : Hid (Q.rst2 rt ck (items.map (·.u)) = now) := Lib.hid (by rw [← HR.out, List.drop_of_length_le (by simp)]; rfl)
        go_wp2_with fail
        go_ret
        exact ⟨ret_int HE.out.symm, bw.out⟩
end Go.Proofs.Ytfjkelngdljikaa
