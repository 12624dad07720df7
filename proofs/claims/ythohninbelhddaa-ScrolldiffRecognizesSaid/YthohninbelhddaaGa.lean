/-
  The walks of layer 18: the closures, count, gain, Gain. By an AI agent.
-/
import Derived.Test.YthohninbelhddaaVw
namespace Go.Proofs.Ythohninbelhddaa
open Go.RowKit

attribute [local go_sem] guard44


set_option maxHeartbeats 2000000 in
theorem count32 (caps : Array Value) (p : Nat → Bool) (t e : Nat) (w : World) (he : e ≤ maxLen) (hlt : t ≤ e)
    (hcall : ∀ i m, t ≤ i → i < e → Calls Try.prog 32 (#[.int .i64 (i : Nat)] ++ caps) (w.drewN m) fun e' w' => e' = .returned (.bool (p i)) ∧ ∃ n, w' = w.drewN n) :
    Calls Try.prog 31 #[.int .i64 t, .int .i64 e, .func (.func 32) #[] caps] w fun e' w' => e' = .returned (.int .i64 (V.cntI p t e)) ∧ ∃ n, w' = w.drewN n := by
  unfold maxLen at he
  have HC := Lib.hid hcall
  have HS := Lib.hid (fun (i : Nat) (h : t ≤ i) => V.cnt_snoc p h)
  have H0 := Lib.hid (V.cnt_none p (Nat.le_refl t))
  have HL := Lib.hid (fun (i : Nat) => V.cnt_le p t i)
  clear hcall
  go_enter Try.func31, Try.ntmps31
  go_wp2
  go_loopw [7, 8] (fun vn vi wr => ∃ i n : Nat, t ≤ i ∧ i ≤ e ∧ vi = .int .i64 i ∧ vn = .int .i64 n ∧ Hid (n = V.cntI p t i) ∧ ∃ m, wr = w.drewN m) (fun _ vi _ => e - (intOf vi).toNat)
  case atStart => exact ⟨t, 0, Nat.le_refl _, hlt, rfl, rfl, Lib.hid H0.out.symm, 0, rfl⟩
  case round =>
    obtain ⟨i, n, hti, hie, rfl, rfl, hn, m, rfl⟩ := hrel
    by_cases hlt' : i < e
    · have hc := Lib.hid (HC.out i m hti hlt')
      have hst := HS.out i hti
      have hle := HL.out i
      rw [← hn.out] at hst hle
      cases hp : p i
      · rw [hp] at hc hst
        have hn2 : Hid (n = V.cntI p t (i + 1)) := Lib.hid (by rw [hst]; simp)
        clear hn hst hp
        go_wp2_with fail
        refine hc.out.mono ?_
        rintro e' w' ⟨rfl, q, rfl⟩
        go_wp2
        go_roundw
        case rel => exact ⟨i + 1, n, by omega, hlt', by go_num, rfl, hn2, q, rfl⟩
        case measure => simp [intOf] <;> omega
      · rw [hp] at hc hst
        have hn2 : Hid (n + 1 = V.cntI p t (i + 1)) := Lib.hid (by rw [hst]; simp)
        clear hn hst hp
        go_wp2_with fail
        refine hc.out.mono ?_
        rintro e' w' ⟨rfl, q, rfl⟩
        go_wp2
        go_roundw
        case rel => exact ⟨i + 1, n + 1, by omega, hlt', by go_num, by go_num, hn2, q, rfl⟩
        case measure => simp [intOf] <;> omega
    · obtain rfl : i = e := by omega
      go_wp2
      go_ret
      exact ⟨ret_int (by rw [hn.out]), m, rfl⟩

set_option maxHeartbeats 2000000 in
theorem count34 (caps : Array Value) (p : Nat → Bool) (t e : Nat) (w : World) (he : e ≤ maxLen) (hlt : t ≤ e)
    (hcall : ∀ i m, t ≤ i → i < e → Calls Try.prog 34 (#[.int .i64 (i : Nat)] ++ caps) (w.drewN m) fun e' w' => e' = .returned (.bool (p i)) ∧ ∃ n, w' = w.drewN n) :
    Calls Try.prog 31 #[.int .i64 t, .int .i64 e, .func (.func 34) #[] caps] w fun e' w' => e' = .returned (.int .i64 (V.cntI p t e)) ∧ ∃ n, w' = w.drewN n := by
  unfold maxLen at he
  have HC := Lib.hid hcall
  have HS := Lib.hid (fun (i : Nat) (h : t ≤ i) => V.cnt_snoc p h)
  have H0 := Lib.hid (V.cnt_none p (Nat.le_refl t))
  have HL := Lib.hid (fun (i : Nat) => V.cnt_le p t i)
  clear hcall
  go_enter Try.func31, Try.ntmps31
  go_wp2
  go_loopw [7, 8] (fun vn vi wr => ∃ i n : Nat, t ≤ i ∧ i ≤ e ∧ vi = .int .i64 i ∧ vn = .int .i64 n ∧ Hid (n = V.cntI p t i) ∧ ∃ m, wr = w.drewN m) (fun _ vi _ => e - (intOf vi).toNat)
  case atStart => exact ⟨t, 0, Nat.le_refl _, hlt, rfl, rfl, Lib.hid H0.out.symm, 0, rfl⟩
  case round =>
    obtain ⟨i, n, hti, hie, rfl, rfl, hn, m, rfl⟩ := hrel
    by_cases hlt' : i < e
    · have hc := Lib.hid (HC.out i m hti hlt')
      have hst := HS.out i hti
      have hle := HL.out i
      rw [← hn.out] at hst hle
      cases hp : p i
      · rw [hp] at hc hst
        have hn2 : Hid (n = V.cntI p t (i + 1)) := Lib.hid (by rw [hst]; simp)
        clear hn hst hp
        go_wp2_with fail
        refine hc.out.mono ?_
        rintro e' w' ⟨rfl, q, rfl⟩
        go_wp2
        go_roundw
        case rel => exact ⟨i + 1, n, by omega, hlt', by go_num, rfl, hn2, q, rfl⟩
        case measure => simp [intOf] <;> omega
      · rw [hp] at hc hst
        have hn2 : Hid (n + 1 = V.cntI p t (i + 1)) := Lib.hid (by rw [hst]; simp)
        clear hn hst hp
        go_wp2_with fail
        refine hc.out.mono ?_
        rintro e' w' ⟨rfl, q, rfl⟩
        go_wp2
        go_roundw
        case rel => exact ⟨i + 1, n + 1, by omega, hlt', by go_num, by go_num, hn2, q, rfl⟩
        case measure => simp [intOf] <;> omega
    · obtain rfl : i = e := by omega
      go_wp2
      go_ret
      exact ⟨ret_int (by rw [hn.out]), m, rfl⟩

theorem cell_new_at (w : World) (cs : Array Value) (t : TypeId) {N j : Nat} (h : w.heap.size = N) : (w.alloc (.cells cs t)).cell? ⟨N, j, none⟩ = cs[j]? := h ▸ World.cell?_alloc_new w cs t j
/-- What the closures read: the boxes of gain, from block N on. -/
structure C.GB (w : World) (N : Nat) (aA bA : Option Addr) (na nb ca cb : Nat) (t e k : Int) : Prop where
  a : w.cell? ⟨N, 2, none⟩ = some (.slice aA na ca)
  b : w.cell? ⟨N + 1, 2, none⟩ = some (.slice bA nb cb)
  t : w.cell? ⟨N + 1 + 1, 0, none⟩ = some (.int .i64 t)
  e : w.cell? ⟨N + 1 + 1 + 1, 0, none⟩ = some (.int .i64 e)
  k : w.cell? ⟨N + 1 + 1 + 1 + 1, 0, none⟩ = some (.int .i64 k)

set_option maxRecDepth 10000 in
set_option maxHeartbeats 4000000 in
theorem clos34 (N B : Nat) (aA bA : Option Addr) (ca cb : Nat) (ars brs : List (Option Addr × Nat × List C.Gl)) (t e k : Int) (i : Nat) (w : World) (hg : C.GB w N aA bA ars.length brs.length ca cb t e k) (ha : C.Rv w B aA ars) (hb : C.Rv w B bA brs)
    (hia : i < ars.length) (hib : i < brs.length) (m : Nat) :
    Calls Try.prog 34 #[.int .i64 i, .pointer (some ⟨N, 0, none⟩), .pointer (some ⟨N + 1, 0, none⟩)] (w.drewN m) fun e' w' => e' = .returned (.bool (V.eqAt (ars.map (·.2.2)) (brs.map (·.2.2)) i)) ∧ ∃ n, w' = w.drewN n := by
  obtain ⟨b1, o1, rfl, _, h1⟩ := ha.at_ (by omega)
  obtain ⟨b2, o2, rfl, _, h2⟩ := hb.at_ (by omega)
  have x0 := h1 i hia
  have y0 := h2 i hib
  obtain ⟨x1, x2, x3⟩ := ha.each ars[i] (List.getElem_mem hia)
  obtain ⟨y1, y2, y3⟩ := hb.each brs[i] (List.getElem_mem hib)
  have k1 := hg.a
  have k2 := hg.b
  have EQ : Hid (∀ q, Calls Try.prog 33 #[.slice ars[i].1 ars[i].2.2.length ars[i].2.1, .slice brs[i].1 brs[i].2.2.length brs[i].2.1] (w.drewN (m + q)) fun e' w' => e' = .returned (.bool (V.eqAt (ars.map (·.2.2)) (brs.map (·.2.2)) i)) ∧ ∃ n, w' = w.drewN (m + n)) := Lib.hid (fun q => by
    refine (equal_any _ _ _ _ B ars[i].2.2 brs[i].2.2 (w.drewN (m + q)) (x1.drewN _) (y1.drewN _) x2 y2).mono ?_
    rintro e' w' ⟨rfl, n, rfl⟩
    refine ⟨by unfold V.eqAt; rw [C.gl_get _ hia, C.gl_get _ hib], q + n, by simp [Nat.add_assoc]⟩)
  have q1 : (0 : Int) ≤ (i : Int) := by omega
  have q2 : (i : Int) < (ars.length : Int) := by omega
  have q3 : (i : Int) < (brs.length : Int) := by omega
  generalize V.eqAt (ars.map (·.2.2)) (brs.map (·.2.2)) i = r at *
  generalize ars[i] = xr at *
  generalize brs[i] = yr at *
  obtain ⟨xa, xc, xl⟩ := xr
  obtain ⟨ya, yc, yl⟩ := yr
  dsimp only at *
  clear ha hb hg h1 h2 x1 x2 x3 y1 y2 y3
  go_enter Try.func34, Try.ntmps34
  go_wp2_with fail
  go_quiet ((go_at_call 33; exact EQ.out _))
  go_wp2
  go_ret
  exact ⟨rfl, m + nq, by simp⟩

set_option maxRecDepth 10000 in
set_option maxHeartbeats 4000000 in
theorem clos32 (N B : Nat) (aA bA : Option Addr) (ca cb : Nat) (ars brs : List (Option Addr × Nat × List C.Gl)) (t e k : Int) (i : Nat) (w : World) (hg : C.GB w N aA bA ars.length brs.length ca cb t e k) (ha : C.Rv w B aA ars) (hb : C.Rv w B bA brs)
    (hal : ars.length ≤ 1000) (ht : 0 ≤ t) (hti : t ≤ i) (hie : (i : Int) < e) (hea : e ≤ ars.length) (hib : i < brs.length) (hk1 : k < e - t) (hk2 : t - e < k) (m : Nat) :
    Calls Try.prog 32 #[.int .i64 i, .pointer (some ⟨N + 1 + 1 + 1 + 1, 0, none⟩), .pointer (some ⟨N + 1 + 1, 0, none⟩), .pointer (some ⟨N + 1 + 1 + 1, 0, none⟩), .pointer (some ⟨N, 0, none⟩), .pointer (some ⟨N + 1, 0, none⟩)] (w.drewN m) fun e' w' => e' = .returned (.bool (V.hit (ars.map (·.2.2)) (brs.map (·.2.2)) t e k i)) ∧ ∃ n, w' = w.drewN n := by
  obtain ⟨b2, o2, rfl, _, h2⟩ := hb.at_ (by omega)
  have y0 := h2 i hib
  obtain ⟨y1, y2, y3⟩ := hb.each brs[i] (List.getElem_mem hib)
  have k1 := hg.a
  have k2 := hg.b
  have k3 := hg.t
  have k4 := hg.e
  have k5 := hg.k
  have u1 : IntKind.i64.wrap ((i : Int) + k) = (i : Int) + k := by simp [IntKind.wrap, IntKind.bits, IntKind.signed]; omega
  have q3 : (i : Int) < (brs.length : Int) := by omega
  have q4 : (0 : Int) ≤ (i : Int) := by omega
  by_cases hin : t ≤ i + k ∧ (i : Int) + k < e
  · obtain ⟨f, hf⟩ : ∃ f : Nat, (i : Int) + k = f := ⟨((i : Int) + k).toNat, by omega⟩
    rw [hf] at u1 hin
    obtain ⟨g1, g2⟩ := hin
    have hfa : f < ars.length := by omega
    obtain ⟨b1, o1, rfl, _, h1⟩ := ha.at_ (by omega)
    have x0 := h1 f hfa
    obtain ⟨x1, x2, x3⟩ := ha.each ars[f] (List.getElem_mem hfa)
    have EQ : Hid (∀ q, Calls Try.prog 33 #[.slice ars[f].1 ars[f].2.2.length ars[f].2.1, .slice brs[i].1 brs[i].2.2.length brs[i].2.1] (w.drewN (m + q)) fun e' w' => e' = .returned (.bool (V.hit (ars.map (·.2.2)) (brs.map (·.2.2)) t e k i)) ∧ ∃ n, w' = w.drewN (m + n)) := Lib.hid (fun q => by
      refine (equal_any _ _ _ _ B ars[f].2.2 brs[i].2.2 (w.drewN (m + q)) (x1.drewN _) (y1.drewN _) x2 y2).mono ?_
      rintro e' w' ⟨rfl, n, rfl⟩
      refine ⟨?_, q + n, by simp [Nat.add_assoc]⟩
      unfold V.hit
      rw [V.rowAt_in ⟨hti, hie⟩ (by omega), hf, Int.toNat_natCast, C.gl_get _ hfa, C.gl_get _ hib])
    have q1 : (0 : Int) ≤ (f : Int) := by omega
    have q2 : (f : Int) < (ars.length : Int) := by omega
    generalize V.hit (ars.map (·.2.2)) (brs.map (·.2.2)) t e k i = r at *
    generalize ars[f] = xr at *
    generalize brs[i] = yr at *
    obtain ⟨xa, xc, xl⟩ := xr
    obtain ⟨ya, yc, yl⟩ := yr
    dsimp only at *
    clear ha hb hg h1 h2 x1 x2 x3 y1 y2 y3
    go_enter Try.func32, Try.ntmps32
    go_wp2_with fail
    go_quiet ((go_at_call 33; exact EQ.out _))
    go_wp2
    go_ret
    exact ⟨rfl, m + nq, by simp⟩
  · have HE : Hid ((((brs[i].2.2.length : Nat) : Int) == 0) = V.hit (ars.map (·.2.2)) (brs.map (·.2.2)) t e k i) := Lib.hid (by
      unfold V.hit
      rw [V.rowAt_lost ⟨hti, hie⟩ hin, C.gl_get _ hib]
      cases brs[i].2.2 <;> simp <;> omega)
    generalize V.hit (ars.map (·.2.2)) (brs.map (·.2.2)) t e k i = r at *
    generalize brs[i] = yr at *
    obtain ⟨ya, yc, yl⟩ := yr
    dsimp only at *
    generalize hf : (i : Int) + k = f at *
    clear ha hb hg h2 y1 y2 y3
    by_cases g1 : t ≤ f
    · have g2 : ¬ f < e := fun h => hin ⟨g1, h⟩
      clear hin
      go_enter Try.func32, Try.ntmps32
      go_wp2
      go_ret
      exact ⟨ret_bool HE.out, m, rfl⟩
    · clear hin
      go_enter Try.func32, Try.ntmps32
      go_wp2
      go_ret
      exact ⟨ret_bool HE.out, m, rfl⟩

set_option maxRecDepth 10000 in
set_option maxHeartbeats 4000000 in
theorem gain_any (B : Nat) (a b : C.VR) (t e k : Int) (w : World) (ha : C.Rv w B a.A a.rs) (hb : C.Rv w B b.A b.rs) (hB : B ≤ w.heap.size) (hal : a.rs.length ≤ 1000) (hab : b.rs.length = a.rs.length) (hp : V.poss a.rs.length t e k) :
    Calls Try.prog 25 #[a.val, b.val, .int .i64 t, .int .i64 e, .int .i64 k] w fun e' w' => e' = .returned (.int .i64 (V.gain a.gl b.gl t e k)) ∧ Below w.heap.size w w' := by
  obtain ⟨h1, h2, h3, h4, h5, h6⟩ := hp
  obtain ⟨t, rfl⟩ : ∃ t' : Nat, t = t' := ⟨t.toNat, by omega⟩
  obtain ⟨e, rfl⟩ : ∃ e' : Nat, e = e' := ⟨e.toNat, by omega⟩
  obtain ⟨aw, ah, aA, ac, ars, ar, aco, av⟩ := a
  obtain ⟨bw, bh, bA, bc, brs, br, bco, bv⟩ := b
  dsimp only [C.VR.val, C.VR.gl] at *
  obtain ⟨W, hW⟩ : ∃ W, ((((w.alloc (.cells #[.int .i64 aw, .int .i64 ah, .slice aA ars.length ac, .int .i64 ar, .int .i64 aco, .bool av] 24)).alloc (.cells #[.int .i64 bw, .int .i64 bh, .slice bA brs.length bc, .int .i64 br, .int .i64 bco, .bool bv] 24)).alloc (.cells #[.int .i64 (t : Int)] 3)).alloc (.cells #[.int .i64 (e : Int)] 3)).alloc (.cells #[.int .i64 k] 3) = W := ⟨_, rfl⟩
  have hb0 : Below w.heap.size w W := by rw [← hW]; exact ((((Below.refl _ w).alloc (Nat.le_refl _) _).alloc (by simp) _).alloc (by simp <;> omega) _).alloc (by simp <;> omega) _ |>.alloc (by simp <;> omega) _
  have hg : C.GB W w.heap.size aA bA ars.length brs.length ac bc (t : Int) (e : Int) k := by
    subst hW
    have lt : ∀ (u : World) (o : Obj) (p : Addr), p.block < u.heap.size → (u.alloc o).cell? p = u.cell? p := fun u o p h => World.cell?_alloc_lt u o p h
    refine ⟨?_, ?_, ?_, ?_, ?_⟩
    · rw [lt _ _ _ (by simp <;> omega), lt _ _ _ (by simp <;> omega), lt _ _ _ (by simp <;> omega), lt _ _ _ (by simp), cell_new_at _ _ _ rfl]; rfl
    · rw [lt _ _ _ (by simp <;> omega), lt _ _ _ (by simp <;> omega), lt _ _ _ (by simp), cell_new_at _ _ _ (by simp)]; rfl
    · rw [lt _ _ _ (by simp <;> omega), lt _ _ _ (by simp), cell_new_at _ _ _ (by simp)]; rfl
    · rw [lt _ _ _ (by simp), cell_new_at _ _ _ (by simp)]; rfl
    · rw [cell_new_at _ _ _ (by simp)]; rfl
  have C2 : Hid (∀ m, Calls Try.prog 31 #[.int .i64 t, .int .i64 e, .func (.func 34) #[] #[.pointer (some ⟨w.heap.size, 0, none⟩), .pointer (some ⟨w.heap.size + 1, 0, none⟩)]] (W.drewN m) fun e' w' => e' = .returned (.int .i64 (V.cntI (V.eqAt (ars.map (·.2.2)) (brs.map (·.2.2))) t e)) ∧ ∃ n, w' = W.drewN n) := Lib.hid (fun m => by
    refine (count34 #[.pointer (some ⟨w.heap.size, 0, none⟩), .pointer (some ⟨w.heap.size + 1, 0, none⟩)] (V.eqAt (ars.map (·.2.2)) (brs.map (·.2.2))) t e (W.drewN m) (by unfold maxLen; omega) (by omega) (fun i q hi he => ?_)).mono ?_
    · refine (clos34 w.heap.size B aA bA ac bc ars brs t e k i (W.drewN m) ⟨hg.a, hg.b, hg.t, hg.e, hg.k⟩ ((ha.below hb0 hB).drewN m) ((hb.below hb0 hB).drewN m) (by omega) (by omega) q)
    · rintro e' w' ⟨rfl, n, rfl⟩
      exact ⟨rfl, m + n, by simp⟩)
  have C1 : Hid (Calls Try.prog 31 #[.int .i64 t, .int .i64 e, .func (.func 32) #[] #[.pointer (some ⟨w.heap.size + 1 + 1 + 1 + 1, 0, none⟩), .pointer (some ⟨w.heap.size + 1 + 1, 0, none⟩), .pointer (some ⟨w.heap.size + 1 + 1 + 1, 0, none⟩), .pointer (some ⟨w.heap.size, 0, none⟩), .pointer (some ⟨w.heap.size + 1, 0, none⟩)]] W fun e' w' => e' = .returned (.int .i64 (V.cntI (V.hit (ars.map (·.2.2)) (brs.map (·.2.2)) t e k) t e)) ∧ ∃ n, w' = W.drewN n) := Lib.hid (
by
    refine count32 _ (V.hit (ars.map (·.2.2)) (brs.map (·.2.2)) t e k) t e W (by unfold maxLen; omega) (by omega) (fun i q hi he => ?_)
    exact clos32 w.heap.size B aA bA ac bc ars brs t e k i W hg (ha.below hb0 hB) (hb.below hb0 hB) hal h1 (by omega) (by omega) h3 (by omega) h5 h6 q)
  have HG : Hid (V.gain (ars.map (·.2.2)) (brs.map (·.2.2)) t e k = (V.cntI (V.hit (ars.map (·.2.2)) (brs.map (·.2.2)) t e k) t e : Int) - (V.cntI (V.eqAt (ars.map (·.2.2)) (brs.map (·.2.2))) t e : Int)) := Lib.hid rfl
  have l1 := V.cnt_le (V.hit (ars.map (·.2.2)) (brs.map (·.2.2)) t e k) t e
  have l2 := V.cnt_le (V.eqAt (ars.map (·.2.2)) (brs.map (·.2.2))) t e
  obtain ⟨g1, g2, g3, g4, g5⟩ := hg
  clear ha hb hab
  generalize V.cntI (V.hit (ars.map (·.2.2)) (brs.map (·.2.2)) t e k) t e = n1 at *
  generalize V.cntI (V.eqAt (ars.map (·.2.2)) (brs.map (·.2.2))) t e = n2 at *
  have u1 : IntKind.i64.wrap ((n1 : Int) - (n2 : Int)) = (n1 : Int) - (n2 : Int) := by simp [IntKind.wrap, IntKind.bits, IntKind.signed]; omega
  have hW' := Lib.hid hW
  clear hW
  go_enter Try.func25, Try.ntmps25
  go_wp2_with fail
  rw [hW'.out]
  refine C1.out.mono ?_
  rintro e' w' ⟨rfl, m, rfl⟩
  have g3' : (W.drewN m).cell? _ = _ := g3
  have g4' : (W.drewN m).cell? _ = _ := g4
  have c2 := Lib.hid (C2.out m)
  have hbm := below_drewN hb0
  have hbm := Lib.hid hbm
  clear C2
  go_wp2_with fail
  refine c2.out.mono ?_
  rintro e' w' ⟨rfl, q, rfl⟩
  go_wp2_with fail
  go_ret
  exact ⟨ret_int HG.out.symm, hbm.out q⟩

/-- What Gain returns. -/
def C.gn (a b : C.VR) (t e k : Int) : Int := if C.mt a.ht b.ht a.rs.length b.rs.length = true ∧ V.poss a.rs.length t e k then V.gain a.gl b.gl t e k else 0

set_option maxRecDepth 10000 in
set_option maxHeartbeats 4000000 in
theorem Gain_any (B : Nat) (a b : C.VR) (t e k : Int) (w : World) (ha : C.Rv w B a.A a.rs) (hb : C.Rv w B b.A b.rs) (hB : B ≤ w.heap.size) (hal : a.rs.length ≤ 1000) :
    Calls Try.prog 16 #[a.val, b.val, .int .i64 t, .int .i64 e, .int .i64 k] w fun e' w' => e' = .returned (.int .i64 (C.gn a b t e k)) ∧ Below w.heap.size w w' := by
  have MT := Lib.hid (fun w' => match_any a b w')
  have PS := Lib.hid (fun w' => possible_any a.rs.length t e k w' (by unfold maxLen; omega))
  have GN : Hid (∀ w', Below w.heap.size w w' → C.mt a.ht b.ht a.rs.length b.rs.length = true → V.poss a.rs.length t e k → Calls Try.prog 25 #[a.val, b.val, .int .i64 t, .int .i64 e, .int .i64 k] w' fun e' w'' => e' = .returned (.int .i64 (C.gn a b t e k)) ∧ Below w'.heap.size w' w'') := Lib.hid (fun w' hbl hm hp => by
    have h := of_decide_eq_true hm
    rw [show C.gn a b t e k = V.gain a.gl b.gl t e k from if_pos ⟨hm, hp⟩]
    exact gain_any B a b t e k w' (ha.below hbl hB) (hb.below hbl hB) (Nat.le_trans hB hbl.size) hal (by omega) hp)
  have Z1 : Hid (C.mt a.ht b.ht a.rs.length b.rs.length = false → C.gn a b t e k = 0) := Lib.hid (fun h => if_neg (fun g => by rw [h] at g; cases g.1))
  have Z2 : Hid (V.possB a.rs.length t e k = false → C.gn a b t e k = 0) := Lib.hid (fun h => if_neg (fun g => of_decide_eq_false h g.2))
  clear ha hb
  generalize C.gn a b t e k = r at *
  obtain ⟨aw, ah, aA, ac, ars, ar, aco, av⟩ := a
  obtain ⟨bw, bh, bA, bc, brs, br, bco, bv⟩ := b
  dsimp only [C.VR.val] at *
  have hb0 : Below w.heap.size w ((w.alloc (.cells #[.int .i64 aw, .int .i64 ah, .slice aA ars.length ac, .int .i64 ar, .int .i64 aco, .bool av] 24)).alloc (.cells #[.int .i64 bw, .int .i64 bh, .slice bA brs.length bc, .int .i64 br, .int .i64 bco, .bool bv] 24)) := ((Below.refl _ w).alloc (Nat.le_refl _) _).alloc (by simp) _
  obtain ⟨W, hW⟩ : ∃ W, ((w.alloc (.cells #[.int .i64 aw, .int .i64 ah, .slice aA ars.length ac, .int .i64 ar, .int .i64 aco, .bool av] 24)).alloc (.cells #[.int .i64 bw, .int .i64 bh, .slice bA brs.length bc, .int .i64 br, .int .i64 bco, .bool bv] 24)) = W := ⟨_, rfl⟩
  have hsz : W.heap.size = w.heap.size + 2 := by rw [← hW]; simp
  have f : ∀ j, j < 6 → W.cell? ⟨w.heap.size, j, none⟩ = (#[Value.int .i64 aw, .int .i64 ah, .slice aA ars.length ac, .int .i64 ar, .int .i64 aco, .bool av])[j]? := fun j hj => by
    rw [← hW, World.cell?_alloc_lt _ _ _ (by simp), World.cell?_alloc_new]
  have f' : ∀ j, j < 6 → W.cell? ⟨w.heap.size + 1, j, none⟩ = (#[Value.int .i64 bw, .int .i64 bh, .slice bA brs.length bc, .int .i64 br, .int .i64 bco, .bool bv])[j]? := fun j hj => by
    rw [← hW]; exact cell_new_at _ _ _ (by simp)
  have a0 := f 0 (by decide); have a1 := f 1 (by decide); have a2 := f 2 (by decide); have a3 := f 3 (by decide); have a4 := f 4 (by decide); have a5 := f 5 (by decide)
  have b0 := f' 0 (by decide); have b1 := f' 1 (by decide); have b2 := f' 2 (by decide); have b3 := f' 3 (by decide); have b4 := f' 4 (by decide); have b5 := f' 5 (by decide)
  have keep : ∀ w', Below W.heap.size W w' → ∀ (q : Nat) (j : Nat), q < w.heap.size + 2 → w'.cell? ⟨q, j, none⟩ = W.cell? ⟨q, j, none⟩ := fun w' hb q j hq => hb.cell (p := ⟨q, j, none⟩) (by show q < _; omega)
  have KP := Lib.hid keep
  have hbW := hb0
  rw [hW] at hbW
  have HW := Lib.hid hW
  have F := Lib.hid f
  have F' := Lib.hid f'
  clear keep f f' hb0 hW
  go_enter Try.func16, Try.ntmps16
  go_wp2_with fail
  rw [HW.out]
  refine (MT.out W).mono ?_
  rintro e' w1 ⟨rfl, b1'⟩
  have hb1 := hbW.trans (b1'.mono hbW.size)
  have a0 := (KP.out _ b1' w.heap.size 0 (by omega)).trans a0
  have a1 := (KP.out _ b1' w.heap.size 1 (by omega)).trans a1
  have a2 := (KP.out _ b1' w.heap.size 2 (by omega)).trans a2
  have a3 := (KP.out _ b1' w.heap.size 3 (by omega)).trans a3
  have a4 := (KP.out _ b1' w.heap.size 4 (by omega)).trans a4
  have a5 := (KP.out _ b1' w.heap.size 5 (by omega)).trans a5
  have b0 := (KP.out _ b1' (w.heap.size + 1) 0 (by omega)).trans b0
  have b1 := (KP.out _ b1' (w.heap.size + 1) 1 (by omega)).trans b1
  have b2 := (KP.out _ b1' (w.heap.size + 1) 2 (by omega)).trans b2
  have b3 := (KP.out _ b1' (w.heap.size + 1) 3 (by omega)).trans b3
  have b4 := (KP.out _ b1' (w.heap.size + 1) 4 (by omega)).trans b4
  have b5 := (KP.out _ b1' (w.heap.size + 1) 5 (by omega)).trans b5
  simp only [List.getElem?_toArray, List.getElem?_cons_zero, List.getElem?_cons_succ] at a0 a1 a2 a3 a4 a5 b0 b1 b2 b3 b4 b5
  cases hm : C.mt ah bh ars.length brs.length
  · have hz := Lib.hid (Z1.out hm)
    clear MT PS GN Z1 Z2
    go_wp2_with fail
    go_ret
    exact ⟨ret_int hz.out.symm, hb1⟩
  · cases hp : V.possB ars.length t e k
    · have hz := Lib.hid (Z2.out hp)
      rw [hp] at PS
      go_wp2_with fail
      refine (PS.out w1).mono ?_
      rintro e' w2 ⟨rfl, rfl⟩
      go_wp2_with fail
      go_ret
      exact ⟨ret_int hz.out.symm, hb1⟩
    · rw [hp] at PS
      have gg := Lib.hid (GN.out w1 hb1 hm (of_decide_eq_true hp))
      go_wp2_with fail
      refine (PS.out w1).mono ?_
      rintro e' w2 ⟨rfl, rfl⟩
      go_wp2_with fail
      refine gg.out.mono ?_
      rintro e' w2 ⟨rfl, b2'⟩
      go_wp2_with fail
      go_ret
      exact ⟨rfl, hb1.trans (b2'.mono hb1.size)⟩
end Go.Proofs.Ythohninbelhddaa
