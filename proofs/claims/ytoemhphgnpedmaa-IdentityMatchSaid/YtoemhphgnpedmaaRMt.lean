/-
  The walks of layer 30: the reference's Match. By an AI agent.
-/
import Derived.Test.YtoemhphgnpedmaaRso
import Derived.Test.YtoemhphgnpedmaaLk3
import Derived.Test.YtoemhphgnpedmaaUn
import Derived.Test.YtoemhphgnpedmaaGn
namespace Go.Proofs.Ytoemhphgnpedmaa
open Go.RowKit

theorem I.max_nat (a b : Nat) : max (a : Int) (b : Int) = ((max a b : Nat) : Int) := by omega
/-- What the reference's Assign returns of a small table. -/
def C.RAsOut (n : Nat) (c : Nat → Nat → Int) (w w' : World) (e : Ending) : Prop := ∃ A1 c1 R, e = .returned (.slice A1 n c1) ∧ Reads w' w'.heap.size 1 A1 n (C.ns (C.asg n R)) ∧ A.Best n c R ∧ Below w.heap.size w w'
set_option maxRecDepth 100000 in
set_option maxHeartbeats 16000000 in
theorem refassign_any (Am : Option Addr) (cp : Nat) (n : Nat) (rs : List (Option Addr × Nat × List Int)) (w : World) (h : C.Mx w w.heap.size Am rs) (hq : C.Sq (C.mt rs)) (hl : rs.length = n) (hn : n ≤ 7) :
    Calls Try.prog 33 #[.slice Am n cp] w fun e w' => C.RAsOut n (C.cst (C.mt rs)) w w' e := by
  have SV := Lib.hid (refsolve_any Am cp n rs w h hq hl hn)
  have PB := Lib.hid (fun R h2 => A.picks_best (n := n) (c := C.cst (C.mt rs)) (R := R) (fun r j _ _ _ _ => (C.at2_range hq (r - 1) (j - 1)).1) h2)
  have q1 : (n : Int) ≤ 12 := by omega
  clear h hq hl
  go_enter Try.func33, Try.ntmps33
  go_wp2_with fail
  refine SV.out.mono ?_
  rintro e w1 ⟨A1, c1, R, rfl, h1, h2, h3⟩
  go_wp2_with fail
  go_ret
  exact ⟨A1, c1, R, rfl, h1, PB.out R h2, h3⟩

theorem I.cost_in {nx od : List I.Rg} {i j : Nat} (ha : i < nx.length) (hb : j < od.length) : I.cost nx od i j = if 300 ≤ I.like (nx.getD i default) (od.getD j default) then 1000 - I.like (nx.getD i default) (od.getD j default) else 1000 := by
  have : I.lk nx od i j = I.like (nx.getD i default) (od.getD j default) := by unfold I.lk; rw [if_pos ⟨ha, hb⟩]
  unfold I.cost
  rw [this]
theorem I.cost_out {nx od : List I.Rg} {i j : Nat} (h : ¬ (i < nx.length ∧ j < od.length)) : I.cost nx od i j = 1000 := by
  have : I.lk nx od i j = 0 := by unfold I.lk; rw [if_neg h]
  unfold I.cost
  rw [this]
  rfl
theorem I.mrow_succ (nx od : List I.Rg) (i j : Nat) : I.mrow nx od i (j + 1) = I.mrow nx od i j ++ [I.cost nx od i j] := by simp [I.mrow, List.range_succ]
theorem reads_region (w : World) (r : I.Rg) (t : TypeId) : Reads (w.alloc (.cells r.cells.toArray t)) (w.alloc (.cells r.cells.toArray t)).heap.size 8 (some ⟨w.heap.size, 0, none⟩) 1 r.cells := by
  refine ⟨by rw [I.cells_len], fun _ => ⟨_, rfl, by simp, fun j u hu => ?_⟩⟩
  have e : ((⟨w.heap.size, 0, none⟩ : Addr).add j) = ⟨w.heap.size, j, none⟩ := by
    unfold Addr.add; split
    · rename_i h; subst h; rfl
    · simp
  rw [e, World.cell?_alloc_new]
  simpa using hu
theorem reads_region_at {W : World} {N : Nat} (hN : W.heap.size = N) (r : I.Rg) (t : TypeId) : Reads (W.alloc (.cells r.cells.toArray t)) (W.alloc (.cells r.cells.toArray t)).heap.size 8 (some ⟨N, 0, none⟩) 1 r.cells := hN ▸ reads_region W r t
/-- The first i regions with their numbers. -/
def I.preW (nx od : List I.Rg) (N : Nat → Nat) (un : Int) (i : Nat) : List I.Rg := (List.range i).map (I.outW nx od N un)
theorem I.preW_succ (nx od : List I.Rg) (N : Nat → Nat) (un : Int) (i : Nat) : I.preW nx od N un (i + 1) = I.preW nx od N un i ++ [I.outW nx od N un i] := by simp [I.preW, List.range_succ]
theorem I.rcs_snoc (l : List I.Rg) (r : I.Rg) : I.rcs (l ++ [r]) = I.rcs l ++ r.cells := by simp [I.rcs]
/-- A box of a region, its number turned. -/
theorem I.box_set {w : World} {X : Nat} {r : I.Rg} (h : w.heap[X]? = some (.cells r.cells.toArray 27 (0, 0))) (y : Int) : I.At (w.setCell ⟨X, 1, none⟩ (.int .i64 y)) X 0 { r with id := y } := by
  have h2 := heap_setCell_same w X 1 _ 27 (.int .i64 y) h
  exact I.at_block h2
set_option maxRecDepth 100000 in
set_option maxHeartbeats 16000000 in
theorem refmatch_any (B : Nat) (Ao An : Option Addr) (co cn : Nat) (od nx : List I.Rg) (un : Int) (w : World) (hro : Reads w B 8 Ao od.length (I.rcs od)) (hrn : Reads w B 8 An nx.length (I.rcs nx)) (hB : B ≤ w.heap.size) (hlo : od.length ≤ 7) (hln : nx.length ≤ 7) (hu : -9223372036854775808 ≤ un ∧ un ≤ 9223372036854775807) :
    Calls Try.prog 20 #[.slice Ao od.length co, .slice An nx.length cn, .int .i64 un] w fun e w' => I.MatchOut nx od un w w' e := by
  obtain ⟨i0, hi, hz0, hz1, hz2⟩ := info_parts infoInt
  obtain ⟨j0, hj, hj0, hj1, hj2⟩ := info_parts infoRowI
  have HRO := Lib.hid hro
  have HRN := Lib.hid hrn
  have OM0 := Lib.hid (C.Om.start w w.heap.size (Nat.le_refl _))
  have B0 : Hid (Below w.heap.size w (w.alloc (.cells #[] 32))) := Lib.hid ((Below.refl _ w).alloc (Nat.le_refl _) _)
  have m1 : min (nx.length : Int) 40 = nx.length := by omega
  have m2 : min (od.length : Int) 40 = od.length := by omega
  have m3 := I.max_nat nx.length od.length
  obtain ⟨n, hn⟩ : ∃ n, max nx.length od.length = n := ⟨_, rfl⟩
  rw [hn] at m3
  have hn7 : n ≤ 7 := by omega
  have hna : nx.length ≤ n := by omega
  have hnb : od.length ≤ n := by omega
  have HDIM : Hid (I.dim nx od = n) := Lib.hid hn
  clear hro hrn hn
  go_enter Try.func20, Try.ntmps20
  go_wp2_with fail
  go_loopw [11, 12] (fun v7 v9 wr => ∃ (i : Nat), ∃ rs : List (Option Addr × Nat × List Int), v9 = .int .i64 i ∧ i ≤ n ∧ rs.length = i ∧ Hid (C.mt rs = I.mtx nx od n i) ∧ Hid (C.Om wr w.heap.size v7 rs) ∧ Hid (Below w.heap.size w wr)) (fun _ v9 _ => n - (intOf v9).toNat)
  case atStart => exact ⟨0, [], rfl, by omega, rfl, Lib.hid rfl, OM0, B0⟩
  case round =>
    clear OM0 B0
    obtain ⟨i, rs, rfl, hin, hrl, hmt, hom, hbl⟩ := hrel
    have HRL := Lib.hid hrl
    clear hrl
    by_cases hlt : i < n
    · have own0 := Lib.hid (World.ownsRow_lit (base := wr.heap.size) (e := 3) (size := 1) wr #[] 0 (Nat.le_refl _) (by decide) rfl)
      have B1 : Hid (Below wr.heap.size wr (wr.alloc (.cells #[] 3))) := Lib.hid ((Below.refl _ wr).alloc (Nat.le_refl _) _)
      go_wp2_with fail
      obtain ⟨wo, hwo⟩ : ∃ wo : World, wo = wr := ⟨_, rfl⟩
      rw [← hwo] at own0 B1 hom hbl ⊢
      clear hwo
      go_loopw [13, 14] (fun v10 v11 w3 => ∃ j : Nat, v11 = .int .i64 j ∧ j ≤ n ∧ Hid (w3.ownsRow wo.heap.size 3 1 v10 j (C.ns (I.mrow nx od i j))) ∧ Hid (Below wo.heap.size wo w3)) (fun _ v11 _ => n - (intOf v11).toNat)
      case atStart => exact ⟨0, rfl, by omega, own0, B1⟩
      case round =>
        clear own0 B1
        obtain ⟨j, rfl, hjn, hown, hb3⟩ := hrel
        by_cases hjl : j < n
        · by_cases ha : i < nx.length
          · by_cases hb : j < od.length
            · have hbw := Lib.hid (hbl.out.trans (hb3.out.mono hbl.out.size))
              obtain ⟨bn, on, rfl, hbn, h1⟩ := (HRN.out.below hbw.out hB).rg (by omega)
              obtain ⟨bo, oo, rfl, hbo, h2⟩ := (HRO.out.below hbw.out hB).rg (by omega)
              obtain ⟨x0, x1, x2, x3, x4, x5, x6, x7⟩ := h1 i ha
              obtain ⟨y0, y1, y2, y3, y4, y5, y6, y7⟩ := h2 j hb
              have ADR := Lib.hid (fun W (h : Below wr.heap.size wr W) => h1 i ha |>.below h (Nat.lt_of_lt_of_le hbn (Nat.le_trans hB hbw.out.size)))
              have ADS := Lib.hid (fun W (h : Below wr.heap.size wr W) => h2 j hb |>.below h (Nat.lt_of_lt_of_le hbo (Nat.le_trans hB hbw.out.size)))
              have LK := Lib.hid (fun w1 => reflike_any (nx.getD i default) (od.getD j default) w1)
              have HC := Lib.hid (I.cost_in ha hb)
              have hlb := I.like_bd (nx.getD i default) (od.getD j default)
              generalize I.like (nx.getD i default) (od.getD j default) = v at *
              generalize nx.getD i default = r at *
              generalize od.getD j default = q at *
              simp only [I.Rg.val, I.Rg.cells] at LK
              have q1 : (0 : Int) ≤ (i : Int) := by omega
              have q2 : (i : Int) < (nx.length : Int) := by omega
              have q3 : (0 : Int) ≤ (j : Int) := by omega
              have q4 : (j : Int) < (od.length : Int) := by omega
              clear h1 h2
              go_wp2_with fail
              go_still_tail 17, (by kernel_rfl)
              go_wp2_with fail
              refine (LK.out _).mono ?_
              rintro e w6 ⟨rfl, b6⟩
              have b6' : Below wr.heap.size wr w6 := ((Below.refl _ wr).drew).trans b6
              have hown := Lib.hid (own_under hown.out b6')
              have hb3 := Lib.hid (hb3.out.trans (b6'.mono hb3.out.size))
              clear x0 x1 x2 x3 x4 x5 x6 x7 y0 y1 y2 y3 y4 y5 y6 y7
              by_cases h3 : 300 ≤ v
              · have HZ := Lib.hid (HC.out.trans (if_pos h3))
                obtain ⟨x0, x1, x2, x3, x4, x5, x6, x7⟩ := ADR.out w6 b6'
                obtain ⟨y0, y1, y2, y3, y4, y5, y6, y7⟩ := ADS.out w6 b6'
                have u1 : IntKind.i64.wrap (1000 - v) = 1000 - v := by simp [IntKind.wrap, IntKind.bits, IntKind.signed]; omega
                clear HC ADR ADS
                go_wp2_with fail
                go_still_tail 8, (by kernel_rfl)
                go_wp2_with fail
                refine (LK.out _).mono ?_
                rintro e w7 ⟨rfl, b7⟩
                have b7' : Below w6.heap.size w6 w7 := ((Below.refl _ w6).drew).trans b7
                have hown := Lib.hid (own_under hown.out b7')
                have hb3 := Lib.hid (hb3.out.trans (b7'.mono hb3.out.size))
                clear x0 x1 x2 x3 x4 x5 x6 x7 y0 y1 y2 y3 y4 y5 y6 y7
                have own1 := hown.out.alloc (.cells #[.int .i64 (1000 - v)] 3)
                have hsz := hb3.out.size
                go_wp2_with (at_builtin; refine wpList_append_any _ rfl (.tmp 72) (.tmp 74) 32 rfl wo.heap.size 3 i0 _ 1 8 Try.underlying32 hi hz0 hz1 hz2 rfl (by decide) u13 _ _ rfl own1 _ _ 1 1 [.int .i64 (1000 - v)] rfl (reads_new _ [.int .i64 (1000 - v)] 3) (by simp [Value.oneCell']) (by simp only [maxLen]; omega) (by omega) (by simp; omega) ?_; intro v' W2 hown' hgrow hnew)
                refine ⟨⟨j + 1, by go_num, by omega, Lib.hid ?_, Lib.hid ((hb3.out.alloc hb3.out.size _).grown hgrow (by simp; omega) (fun b e => (hown.out.lt b e).1))⟩, by simp [intOf]; omega⟩
                rw [I.mrow_succ, HZ.out]
                simp only [C.ns, List.map_append, List.map_cons, List.map_nil]
                exact hown'
              · have HZ := Lib.hid (HC.out.trans (if_neg h3))
                clear HC ADR ADS
                have own1 := hown.out.alloc (.cells #[.int .i64 (1000)] 3)
                have hsz := hb3.out.size
                go_wp2_with (at_builtin; refine wpList_append_any _ rfl (.tmp 72) (.tmp 74) 32 rfl wo.heap.size 3 i0 _ 1 8 Try.underlying32 hi hz0 hz1 hz2 rfl (by decide) u13 _ _ rfl own1 _ _ 1 1 [.int .i64 (1000)] rfl (reads_new _ [.int .i64 (1000)] 3) (by simp [Value.oneCell']) (by simp only [maxLen]; omega) (by omega) (by simp; omega) ?_; intro v' W2 hown' hgrow hnew)
                refine ⟨⟨j + 1, by go_num, by omega, Lib.hid ?_, Lib.hid ((hb3.out.alloc hb3.out.size _).grown hgrow (by simp; omega) (fun b e => (hown.out.lt b e).1))⟩, by simp [intOf]; omega⟩
                rw [I.mrow_succ, HZ.out]
                simp only [C.ns, List.map_append, List.map_cons, List.map_nil]
                exact hown'
            · have HZ : Hid (I.cost nx od i j = 1000) := Lib.hid (I.cost_out (by omega))
              have q1 : decide ((i : Int) < (nx.length : Int)) = true := decide_eq_true (by omega)
              have q2 : decide ((j : Int) < (od.length : Int)) = false := decide_eq_false (by omega)
              go_wp2_with fail
              go_quiet (fail)
              have hsz0 := hb3.out.size
              have hown : Hid ((wr.drewN nq).ownsRow wo.heap.size 3 1 u13 j (C.ns (I.mrow nx od i j))) := Lib.hid hown.out
              have hb3 := Lib.hid (below_drewN hb3.out nq)
              have own1 := hown.out.alloc (.cells #[.int .i64 (1000)] 3)
              have hsz := hb3.out.size
              go_wp2_with (at_builtin; refine wpList_append_any _ rfl (.tmp 72) (.tmp 74) 32 rfl wo.heap.size 3 i0 _ 1 8 Try.underlying32 hi hz0 hz1 hz2 rfl (by decide) u13 _ _ rfl own1 _ _ 1 1 [.int .i64 (1000)] rfl (reads_new _ [.int .i64 (1000)] 3) (by simp [Value.oneCell']) (by simp only [maxLen]; omega) (by omega) (by simp; omega) ?_; intro v' W2 hown' hgrow hnew)
              refine ⟨⟨j + 1, by go_num, by omega, Lib.hid ?_, Lib.hid ((hb3.out.alloc hb3.out.size _).grown hgrow (by simp; omega) (fun b e => (hown.out.lt b e).1))⟩, by simp [intOf]; omega⟩
              rw [I.mrow_succ, HZ.out]
              simp only [C.ns, List.map_append, List.map_cons, List.map_nil]
              exact hown'
          · have HZ : Hid (I.cost nx od i j = 1000) := Lib.hid (I.cost_out (by omega))
            have q1 : decide ((i : Int) < (nx.length : Int)) = false := decide_eq_false (by omega)
            go_wp2_with fail
            go_quiet (fail)
            have hsz0 := hb3.out.size
            have hown : Hid ((wr.drewN nq).ownsRow wo.heap.size 3 1 u13 j (C.ns (I.mrow nx od i j))) := Lib.hid hown.out
            have hb3 := Lib.hid (below_drewN hb3.out nq)
            have own1 := hown.out.alloc (.cells #[.int .i64 (1000)] 3)
            have hsz := hb3.out.size
            go_wp2_with (at_builtin; refine wpList_append_any _ rfl (.tmp 72) (.tmp 74) 32 rfl wo.heap.size 3 i0 _ 1 8 Try.underlying32 hi hz0 hz1 hz2 rfl (by decide) u13 _ _ rfl own1 _ _ 1 1 [.int .i64 (1000)] rfl (reads_new _ [.int .i64 (1000)] 3) (by simp [Value.oneCell']) (by simp only [maxLen]; omega) (by omega) (by simp; omega) ?_; intro v' W2 hown' hgrow hnew)
            refine ⟨⟨j + 1, by go_num, by omega, Lib.hid ?_, Lib.hid ((hb3.out.alloc hb3.out.size _).grown hgrow (by simp; omega) (fun b e => (hown.out.lt b e).1))⟩, by simp [intOf]; omega⟩
            rw [I.mrow_succ, HZ.out]
            simp only [C.ns, List.map_append, List.map_cons, List.map_nil]
            exact hown'
        · obtain rfl : j = n := by omega
          obtain ⟨Ar, car, hv, hrdr⟩ := own_reads hown.out
          subst hv
          have hne : ((Value.slice Ar j car).ownBlock) ≠ none := by
            obtain ⟨g, cap, e⟩ := ownsRow_succ (k := j - 1) (by rw [show j - 1 + 1 = j by omega]; exact hown.out)
            rw [e]
            simp [Value.ownBlock]
          have HNE := Lib.hid hne
          have own2 := (own_under hom.out.out hb3.out).alloc (.cells #[.slice Ar j car] 32)
          have hsz := hb3.out.size
          have hsw := hbl.out.size
          rw [HRL.out] at own2
          clear hne hrdr
          go_wp2_with (at_builtin; refine wpList_append_any _ rfl (.tmp 76) (.tmp 78) 45 rfl w.heap.size 32 j0 _ 1 24 Try.underlying45 hj hj0 hj1 hj2 rfl (by decide) u11 _ _ rfl own2 _ _ 1 1 [.slice Ar j car] rfl (reads_new _ [.slice Ar j car] 32) (by simp [Value.oneCell']) (by simp only [maxLen]; omega) (by omega) (by simp; omega) ?_; intro v' W4 hown' hgrow hnew)
          have OM4 : Hid (C.Om W4 w.heap.size v' (rs ++ [(Ar, car, I.mrow nx od i j)])) := Lib.hid (hom.out.push (r0 := (Ar, car, I.mrow nx od i j)) hsw hb3.out (by unfold C.slv; simp only [I.mrow_len]; exact hown.out) (by unfold C.slv; simp only [I.mrow_len]; exact HNE.out) (by unfold C.slv; simp only [I.mrow_len]; rw [HRL.out]; exact hown') (by unfold C.slv; simp only [I.mrow_len]; exact hgrow) (by unfold C.slv; simp only [I.mrow_len]; exact hnew))
          have B4 : Hid (Below w.heap.size w W4) := Lib.hid (((hbl.out.trans (hb3.out.mono hsw)).alloc (by omega) _).grown hgrow (by simp; omega) (fun b e => (hom.out.out.lt b e).1))
          have MT4 : Hid (C.mt (rs ++ [(Ar, car, I.mrow nx od i j)]) = I.mtx nx od j (i + 1)) := Lib.hid (by
            rw [I.mtx_succ, ← hmt.out]
            simp [C.mt])
          have RL4 : Hid ((rs ++ [(Ar, car, I.mrow nx od i j)]).length = i + 1) := Lib.hid (by simp [HRL.out])
          exact ⟨⟨i + 1, _, by go_num, hlt, RL4.out, MT4, OM4, B4⟩, by simp [intOf]; omega⟩
    · obtain rfl : i = n := by omega
      have hsq : C.Sq (C.mt rs) := by rw [hmt.out]; exact I.mtx_sq nx od (by omega)
      have hrl := HRL.out
      have hrw : ∀ r ∈ rs, r.2.2.length ≤ maxLen := fun r hr => by
        have : r.2.2 ∈ C.mt rs := List.mem_map.2 ⟨r, hr, rfl⟩
        rw [hsq.2.1 _ this]
        have := hsq.1
        unfold maxLen; omega
      obtain ⟨Am, cm, rfl, hmx⟩ := hom.out.mx (by unfold maxLen; omega) hrw
      have AS := Lib.hid (refassign_any Am cm i rs wr hmx hsq hrl hn7)
      have HMT := Lib.hid hmt.out
      rw [hrl]
      clear hsq hrw hmx hrl hom hmt
      go_wp2_with fail
      refine AS.out.mono ?_
      rintro e w2 ⟨Al, cl, N, rfl, hl, best, b2⟩
      rw [HMT.out] at best
      have BEST : Hid (A.Best (I.dim nx od) (I.cst nx od) N) := Lib.hid (by rw [HDIM.out]; exact best.congr (I.mtx_cst nx od i))
      have PF := Lib.hid best.pf
      have HB2 := Lib.hid (hbl.out.trans (b2.mono hbl.out.size))
      have HL := Lib.hid hl
      obtain ⟨k0, hk0, hk1, hk2, hk3⟩ := info_parts infoRg
      have UN : Hid (wrap64 (un + (I.cntF nx od N 0 : Nat)) = un) := Lib.hid (by simp only [I.cntF]; unfold wrap64; omega)
      have own0 : Hid ((w2.alloc (.cells #[] 27)).ownsRow w2.heap.size 27 8 (.slice (some ⟨w2.heap.size, 0, none⟩) 0 0) 0 (I.rcs (I.preW nx od N un 0))) := Lib.hid (World.ownsRow_lit (base := w2.heap.size) (e := 27) (size := 8) w2 #[] 0 (Nat.le_refl _) (by decide) rfl)
      have B1 : Hid (Below w2.heap.size w2 (w2.alloc (.cells #[] 27))) := Lib.hid ((Below.refl _ _).alloc (Nat.le_refl _) _)
      clear AS hl best b2 hbl HMT hi hz0 hz1 hz2 hj hj0 hj1 hj2
      go_wp2_with fail
      go_loopw [2, 18, 19] (fun v2 v18 v19 wr => ∃ m : Nat, v19 = .int .i64 m ∧ m ≤ nx.length ∧ v2 = .int .i64 (wrap64 (un + (I.cntF nx od N m : Nat))) ∧ Hid (wr.ownsRow w2.heap.size 27 8 v18 m (I.rcs (I.preW nx od N un m))) ∧ Hid (Below w2.heap.size w2 wr)) (fun _ _ v19 _ => nx.length - (intOf v19).toNat)
      case atStart => exact ⟨0, rfl, by omega, by rw [UN.out], own0, B1⟩
      case round =>
        clear own0 B1 UN
        obtain ⟨m, rfl, hm, rfl, hown, hbl⟩ := hrel
        by_cases hlt : m < nx.length
        · have hbw := Lib.hid (HB2.out.trans (hbl.out.mono HB2.out.size))
          obtain ⟨bn, on, rfl, hbn, h1⟩ := (HRN.out.below hbw.out hB).rg (by omega)
          have AN := Lib.hid (fun o => (h1 m hlt).below ((Below.refl wr.heap.size wr).alloc (Nat.le_refl _) o) (Nat.lt_of_lt_of_le hbn (Nat.le_trans hB hbw.out.size)))
          obtain ⟨x0, x1, x2, x3, x4, x5, x6, x7⟩ := h1 m hlt
          have rgI := I.pf_at PF.out (show m < i by omega)
          obtain ⟨k, hk⟩ : ∃ k, N (m + 1) - 1 = k := ⟨_, rfl⟩
          have hlc : (C.asg i N).length = i := C.asg_len i N
          have hrl2 : Reads wr w2.heap.size 1 Al (C.asg i N).length (C.ns (C.asg i N)) := by rw [hlc]; exact HL.out.below hbl.out (Nat.le_refl _)
          obtain ⟨bl, ol, rfl, hbl1, hcl⟩ := C.nums_at hrl2 (by rw [hlc]; omega)
          have z0 := hcl m (by rw [hlc]; omega)
          rw [C.asg_get, show ((N (m + 1) : Nat) : Int) - 1 = (k : Int) by have := rgI.1; omega] at z0
          have hblw : bl < wr.heap.size := Nat.lt_of_lt_of_le hbl1 hbl.out.size
          have Z := fun o : Obj => (World.cell?_alloc_lt wr o ⟨bl, ol + m, none⟩ hblw).trans z0
          obtain ⟨u, hu0⟩ : ∃ u, wrap64 (un + (I.cntF nx od N m : Nat)) = u := ⟨_, rfl⟩
          rw [hu0]
          have HU := Lib.hid hu0
          have HK := Lib.hid hk
          have q1 : (0 : Int) ≤ (m : Int) := by omega
          have q2 : (m : Int) < (nx.length : Int) := by omega
          have q3 : (m : Int) < (i : Int) := by omega
          have q4 : ((0 : Int) == 0) = true := rfl
          have hki : k < i := by omega
          clear h1 hu0 hk hlc hrl2 hcl rgI
          by_cases hko : k < od.length
          · obtain ⟨bo, oo, rfl, hbo, h2⟩ := (HRO.out.below hbw.out hB).rg (by omega)
            have hbow : bo < wr.heap.size := Nat.lt_of_lt_of_le hbo (Nat.le_trans hB hbw.out.size)
            have AO := Lib.hid (fun W (h : Below wr.heap.size wr W) => (h2 k hko).below h hbow)
            have LK := Lib.hid (fun w1 => reflike_any (nx.getD m default) (od.getD k default) w1)
            have HLK : Hid (I.lk nx od m k = I.like (nx.getD m default) (od.getD k default)) := Lib.hid (by unfold I.lk; rw [if_pos ⟨hlt, hko⟩])
            obtain ⟨v, hv⟩ : ∃ v, I.like (nx.getD m default) (od.getD k default) = v := ⟨_, rfl⟩
            obtain ⟨r, hr⟩ : ∃ r, nx.getD m default = r := ⟨_, rfl⟩
            obtain ⟨q, hq⟩ : ∃ q, od.getD k default = q := ⟨_, rfl⟩
            rw [hr] at x0 x1 x2 x3 x4 x5 x6 x7 AN
            have HR := Lib.hid hr
            have HQ := Lib.hid hq
            have HV := Lib.hid hv
            have AO2 : Hid (∀ W, Below wr.heap.size wr W → I.At W bo (oo + k * 8) q) := Lib.hid (fun W h => by have := AO.out W h; rw [hq] at this; exact this)
            have LK2 : Hid (∀ w1, Calls Try.prog 15 #[r.val, q.val] w1 fun e w' => e = .returned (.int .i64 v) ∧ Below w1.heap.size w1 w') := Lib.hid (fun w1 => by have := LK.out w1; rw [hv, hr, hq] at this; exact this)
            simp only [I.Rg.val, I.Rg.cells] at LK2
            have q5 : (0 : Int) ≤ (k : Int) := by omega
            have q6 : (k : Int) < (od.length : Int) := by omega
            clear AO LK hr hq hv h2
            go_wp2_with fail
            have b3 : Below wr.heap.size wr (wr.alloc (.cells #[.int .i64 r.kind, .int .i64 r.id, .int .i64 r.parent, .int .i64 r.top, .int .i64 r.left, .int .i64 r.bottom, .int .i64 r.right, .string r.label] 27)) := (Below.refl _ wr).alloc (Nat.le_refl _) _
            have A3 := AO2.out (wr.alloc (.cells #[.int .i64 r.kind, .int .i64 r.id, .int .i64 r.parent, .int .i64 r.top, .int .i64 r.left, .int .i64 r.bottom, .int .i64 r.right, .string r.label] 27)) b3
            have z3 := Z (.cells #[.int .i64 r.kind, .int .i64 r.id, .int .i64 r.parent, .int .i64 r.top, .int .i64 r.left, .int .i64 r.bottom, .int .i64 r.right, .string r.label] 27)
            have V3 : (wr.alloc (.cells #[.int .i64 r.kind, .int .i64 r.id, .int .i64 r.parent, .int .i64 r.top, .int .i64 r.left, .int .i64 r.bottom, .int .i64 r.right, .string r.label] 27)).heap[wr.heap.size]? = some (.cells r.cells.toArray 27 (0, 0)) := C.heap_new wr (.cells r.cells.toArray 27)
            have s3 : wr.heap.size < (wr.alloc (.cells #[.int .i64 r.kind, .int .i64 r.id, .int .i64 r.parent, .int .i64 r.top, .int .i64 r.left, .int .i64 r.bottom, .int .i64 r.right, .string r.label] 27)).heap.size := by simp
            clear x0 x1 x2 x3 x4 x5 x6 x7 AN
            generalize hw3 : wr.alloc (.cells #[.int .i64 r.kind, .int .i64 r.id, .int .i64 r.parent, .int .i64 r.top, .int .i64 r.left, .int .i64 r.bottom, .int .i64 r.right, .string r.label] 27) = w3 at *
            clear hw3
            have V3' := V3
            obtain ⟨x0, x1, x2, x3, x4, x5, x6, x7⟩ := I.at_block V3'
            simp only [Nat.zero_add] at x0 x1 x2 x3 x4 x5 x6 x7
            obtain ⟨y0, y1, y2, y3, y4, y5, y6, y7⟩ := A3
            have BH3 := Lib.hid b3
            have VH3 := Lib.hid V3
            clear b3 V3 V3'
            go_still_tail 30, (by kernel_rfl)
            go_wp2_with fail
            refine (LK2.out _).mono ?_
            rintro e w6 ⟨rfl, b6⟩
            have hbx : Below wr.heap.size wr w6 := BH3.out.drew.trans (b6.mono (Nat.le_of_lt s3))
            have V6 : w6.heap[wr.heap.size]? = some (.cells r.cells.toArray 27 (0, 0)) := (b6.block wr.heap.size s3).trans VH3.out
            have c1 : w6.cell? ⟨wr.heap.size, 1, none⟩ = some (.int .i64 r.id) := (I.at_block V6).c1
            have f1 := C.blk_frozen V6 1
            clear x0 x1 x2 x3 x4 x5 x6 x7 y0 y1 y2 y3 y4 y5 y6 y7 z3
            by_cases h3 : 300 ≤ v
            · have FR : Hid (I.fresh nx od N m = false) := Lib.hid (by unfold I.fresh; rw [HK.out, HLK.out, HV.out]; exact decide_eq_false (by omega))
              have OW : Hid (I.outW nx od N un m = { r with id := q.id }) := Lib.hid (by unfold I.outW I.idW; rw [FR.out, HK.out, HQ.out, HR.out]; rfl)
              have UN2 : Hid (u = wrap64 (un + (I.cntF nx od N (m + 1) : Nat))) := Lib.hid (by
                have e : I.cntF nx od N (m + 1) = I.cntF nx od N m := by simp only [I.cntF]; rw [FR.out]; simp
                rw [e, ← HU.out])
              obtain ⟨t0, t1, t2, t3, t4, t5, t6, t7⟩ := AO2.out w6 hbx
              have z6 := (hbx.cell (p := ⟨bl, ol + m, none⟩) hblw).trans z0
              have BW : Below wr.heap.size wr (w6.setCell ⟨wr.heap.size, 1, none⟩ (.int .i64 q.id)) := hbx.setCell (Nat.le_refl _) _
              clear HLK HV FR LK2 Z
              have own7 : (w6.setCell ⟨wr.heap.size, 1, none⟩ (.int .i64 q.id)).ownsRow w2.heap.size 27 8 u18 m (I.rcs (I.preW nx od N un m)) := own_under hown.out BW
              have own1 := own7.alloc (.cells (I.Rg.cells { r with id := q.id }).toArray 27)
              obtain ⟨s0, s1, s2, s3, s4, s5, s6, s7⟩ := I.box_set V6 q.id
              simp only [Nat.zero_add] at s0 s1 s2 s3 s4 s5 s6 s7
              have hsz := BW.size
              have hsw := hbl.out.size
              simp at hsz
              go_wp2_with (at_builtin; refine wpList_append_any _ rfl (.tmp 139) (.tmp 141) 22 rfl w2.heap.size 27 k0 _ 8 72 Try.underlying22 hk0 hk1 hk2 hk3 rfl (by decide) u18 _ _ rfl own1 _ _ 1 1 (I.Rg.cells { r with id := q.id }) rfl (reads_region_at (W := w6.setCell ⟨wr.heap.size, 1, none⟩ (.int .i64 q.id)) (World.size_setCell _ _ _) { r with id := q.id } 27) (by intro z hz; exact I.rcs_one [{ r with id := q.id }] z (by simpa [I.rcs] using hz)) (by simp only [maxLen]; omega) (by omega) (by simp; omega) ?_; intro v' W8 hown' hgrow hnew)
              refine ⟨⟨m + 1, by go_num, by omega, by rw [UN2.out], Lib.hid ?_, Lib.hid ((((hbl.out.trans (BW.mono hbl.out.size))).alloc (by simp; omega) _).grown hgrow (by simp; omega) (fun b e => (hown.out.lt b e).1))⟩, by simp [intOf]; omega⟩
              rw [I.preW_succ, I.rcs_snoc, OW.out]
              exact hown'
            · have FR : Hid (I.fresh nx od N m = true) := Lib.hid (by unfold I.fresh; rw [HK.out, HLK.out, HV.out]; exact decide_eq_true (by omega))
              have OW : Hid (I.outW nx od N un m = { r with id := u }) := Lib.hid (by unfold I.outW I.idW; rw [FR.out, HR.out, if_pos rfl, HU.out])
              have UN2 : Hid (wrap64 (u + 1) = wrap64 (un + (I.cntF nx od N (m + 1) : Nat))) := Lib.hid (by
                have e : I.cntF nx od N (m + 1) = I.cntF nx od N m + 1 := by simp only [I.cntF]; rw [FR.out]; simp
                rw [e, ← HU.out]
                unfold wrap64
                omega)
              have BW : Below wr.heap.size wr (w6.setCell ⟨wr.heap.size, 1, none⟩ (.int .i64 u)) := hbx.setCell (Nat.le_refl _) _
              clear HLK HV FR LK2 Z
              have own7 : (w6.setCell ⟨wr.heap.size, 1, none⟩ (.int .i64 u)).ownsRow w2.heap.size 27 8 u18 m (I.rcs (I.preW nx od N un m)) := own_under hown.out BW
              have own1 := own7.alloc (.cells (I.Rg.cells { r with id := u }).toArray 27)
              obtain ⟨s0, s1, s2, s3, s4, s5, s6, s7⟩ := I.box_set V6 u
              simp only [Nat.zero_add] at s0 s1 s2 s3 s4 s5 s6 s7
              have hsz := BW.size
              have hsw := hbl.out.size
              simp at hsz
              go_wp2_with (at_builtin; refine wpList_append_any _ rfl (.tmp 139) (.tmp 141) 22 rfl w2.heap.size 27 k0 _ 8 72 Try.underlying22 hk0 hk1 hk2 hk3 rfl (by decide) u18 _ _ rfl own1 _ _ 1 1 (I.Rg.cells { r with id := u }) rfl (reads_region_at (W := w6.setCell ⟨wr.heap.size, 1, none⟩ (.int .i64 u)) (World.size_setCell _ _ _) { r with id := u } 27) (by intro z hz; exact I.rcs_one [{ r with id := u }] z (by simpa [I.rcs] using hz)) (by simp only [maxLen]; omega) (by omega) (by simp; omega) ?_; intro v' W8 hown' hgrow hnew)
              refine ⟨⟨m + 1, by go_num, by omega, by rw [UN2.out], Lib.hid ?_, Lib.hid ((((hbl.out.trans (BW.mono hbl.out.size))).alloc (by simp; omega) _).grown hgrow (by simp; omega) (fun b e => (hown.out.lt b e).1))⟩, by simp [intOf]; omega⟩
              rw [I.preW_succ, I.rcs_snoc, OW.out]
              exact hown'
          · have FR : Hid (I.fresh nx od N m = true) := Lib.hid (by unfold I.fresh I.lk; rw [HK.out, if_neg (by omega)]; rfl)
            obtain ⟨r, hr⟩ : ∃ r, nx.getD m default = r := ⟨_, rfl⟩
            rw [hr] at x0 x1 x2 x3 x4 x5 x6 x7 AN
            have HR := Lib.hid hr
            have q5 : decide ((k : Int) < (od.length : Int)) = false := decide_eq_false (by omega)
            clear hr
            go_wp2_with fail
            have b3 : Below wr.heap.size wr (wr.alloc (.cells #[.int .i64 r.kind, .int .i64 r.id, .int .i64 r.parent, .int .i64 r.top, .int .i64 r.left, .int .i64 r.bottom, .int .i64 r.right, .string r.label] 27)) := (Below.refl _ wr).alloc (Nat.le_refl _) _
            have z3 := Z (.cells #[.int .i64 r.kind, .int .i64 r.id, .int .i64 r.parent, .int .i64 r.top, .int .i64 r.left, .int .i64 r.bottom, .int .i64 r.right, .string r.label] 27)
            have V3 : (wr.alloc (.cells #[.int .i64 r.kind, .int .i64 r.id, .int .i64 r.parent, .int .i64 r.top, .int .i64 r.left, .int .i64 r.bottom, .int .i64 r.right, .string r.label] 27)).heap[wr.heap.size]? = some (.cells r.cells.toArray 27 (0, 0)) := C.heap_new wr (.cells r.cells.toArray 27)
            clear x0 x1 x2 x3 x4 x5 x6 x7 AN
            generalize hw3 : wr.alloc (.cells #[.int .i64 r.kind, .int .i64 r.id, .int .i64 r.parent, .int .i64 r.top, .int .i64 r.left, .int .i64 r.bottom, .int .i64 r.right, .string r.label] 27) = w3 at *
            clear hw3
            have BH3 := Lib.hid b3
            have VH3 := Lib.hid V3
            clear b3 V3
            go_quiet (fail)
            have hbx : Below wr.heap.size wr (w3.drewN nq) := below_drewN BH3.out nq
            have V6 : (w3.drewN nq).heap[wr.heap.size]? = some (.cells r.cells.toArray 27 (0, 0)) := VH3.out
            generalize hw6 : w3.drewN nq = w6 at *
            clear hw6 z3
            have c1 : w6.cell? ⟨wr.heap.size, 1, none⟩ = some (.int .i64 r.id) := (I.at_block V6).c1
            have f1 := C.blk_frozen V6 1
            have OW : Hid (I.outW nx od N un m = { r with id := u }) := Lib.hid (by unfold I.outW I.idW; rw [FR.out, HR.out, if_pos rfl, HU.out])
            have UN2 : Hid (wrap64 (u + 1) = wrap64 (un + (I.cntF nx od N (m + 1) : Nat))) := Lib.hid (by
              have e : I.cntF nx od N (m + 1) = I.cntF nx od N m + 1 := by simp only [I.cntF]; rw [FR.out]; simp
              rw [e, ← HU.out]
              unfold wrap64
              omega)
            have BW : Below wr.heap.size wr (w6.setCell ⟨wr.heap.size, 1, none⟩ (.int .i64 u)) := hbx.setCell (Nat.le_refl _) _
            clear FR Z
            have own7 : (w6.setCell ⟨wr.heap.size, 1, none⟩ (.int .i64 u)).ownsRow w2.heap.size 27 8 u18 m (I.rcs (I.preW nx od N un m)) := own_under hown.out BW
            have own1 := own7.alloc (.cells (I.Rg.cells { r with id := u }).toArray 27)
            obtain ⟨s0, s1, s2, s3, s4, s5, s6, s7⟩ := I.box_set V6 u
            simp only [Nat.zero_add] at s0 s1 s2 s3 s4 s5 s6 s7
            have hsz := BW.size
            have hsw := hbl.out.size
            simp at hsz
            go_wp2_with (at_builtin; refine wpList_append_any _ rfl (.tmp 139) (.tmp 141) 22 rfl w2.heap.size 27 k0 _ 8 72 Try.underlying22 hk0 hk1 hk2 hk3 rfl (by decide) u18 _ _ rfl own1 _ _ 1 1 (I.Rg.cells { r with id := u }) rfl (reads_region_at (W := w6.setCell ⟨wr.heap.size, 1, none⟩ (.int .i64 u)) (World.size_setCell _ _ _) { r with id := u } 27) (by intro z hz; exact I.rcs_one [{ r with id := u }] z (by simpa [I.rcs] using hz)) (by simp only [maxLen]; omega) (by omega) (by simp; omega) ?_; intro v' W8 hown' hgrow hnew)
            refine ⟨⟨m + 1, by go_num, by omega, by rw [UN2.out], Lib.hid ?_, Lib.hid ((((hbl.out.trans (BW.mono hbl.out.size))).alloc (by simp; omega) _).grown hgrow (by simp; omega) (fun b e => (hown.out.lt b e).1))⟩, by simp [intOf]; omega⟩
            rw [I.preW_succ, I.rcs_snoc, OW.out]
            exact hown'
        · obtain rfl : m = nx.length := by omega
          have q2 : ((nx.length : Int) < (nx.length : Int)) = False := eq_false (by omega)
          go_wp2_with fail
          go_ret2
          exact ⟨N, _, rfl, hown.out.mono HB2.out.size, BEST.out, HB2.out.trans (hbl.out.mono HB2.out.size)⟩
end Go.Proofs.Ytoemhphgnpedmaa
