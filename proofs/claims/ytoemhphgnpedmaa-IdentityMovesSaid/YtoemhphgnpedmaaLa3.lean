/-
  The statements of layer 30: IdentityKeeps. By an AI agent.
-/
import Derived.Test.YtoemhphgnpedmaaKPlain
import Derived.Test.YtoemhphgnpedmaaLk3
import Derived.Test.YtoemhphgnpedmaaSm
namespace Go.Proofs.Ytoemhphgnpedmaa
open Go.RowKit

/-- The first i regions without their numbers. -/
def I.zk (l : List I.Rg) (i : Nat) : List I.Rg := I.zeroed (l.take i) ++ l.drop i
theorem I.zk_zero (l : List I.Rg) : I.zk l 0 = l := by simp [I.zk, I.zeroed]
theorem I.zk_all (l : List I.Rg) : I.zk l l.length = I.zeroed l := by simp [I.zk]
theorem I.zk_len (l : List I.Rg) {i : Nat} (hi : i ≤ l.length) : (I.zk l i).length = l.length := by simp [I.zk, I.zeroed]; omega
theorem I.zk_succ (l : List I.Rg) {i : Nat} (hi : i < l.length) : (I.zk l i).set i { (I.zk l i).getD i default with id := 0 } = I.zk l (i + 1) := by
  have e1 : (I.zk l i).getD i default = l[i] := by
    unfold I.zk
    rw [List.getD, List.getElem?_append_right (by simp [I.zeroed]; omega)]
    simp [I.zeroed, hi, Nat.min_eq_left (Nat.le_of_lt hi)]
  rw [e1]
  unfold I.zk
  rw [List.drop_eq_getElem_cons hi, List.take_succ_eq_append_getElem hi]
  have e2 : (I.zeroed (l.take i)).length = i := by simp [I.zeroed]; omega
  rw [List.set_append_right _ _ (by omega), e2, Nat.sub_self, List.set_cons_zero]
  simp only [I.zeroed, List.map_append, List.map_cons, List.map_nil, List.append_assoc, List.cons_append, List.nil_append]

theorem slice_suf (b o : Nat) {n c k : Nat} (hk : k < n) (hc : n ≤ c) : ∀ w' : World, (Instr.sliceAt 22 (.slice (some ⟨b, o, none⟩) n c) (some (.int .i64 (k : Int))) none none).run Try.prog w' = .ok (.slice (some ⟨b, o + k * 8, none⟩) (n - k) (c - k)) w' := by
  intro w'
  have ht : Try.prog.underlying 22 = some (.slice (Try.prog.elem 22)) := by kernel_rfl
  have hs : (sizeOf (Try.prog.elem 22)).run Try.prog w' = .ok 8 w' := by kernel_rfl
  rw [run_sliceAt_slice _ _ _ _ _ _ ht, run_slice_l _ _ _ _ _ ht .i64 (k : Int) (by omega) (by omega), hs]
  simp only [Result.andThen, sliced, Int.toNat_natCast]
  have e : ((⟨b, o, none⟩ : Addr).add (k * 8)) = ⟨b, o + k * 8, none⟩ := by unfold Addr.add; split <;> simp_all
  have e2 : ¬ c = k := by omega
  simp [e, e2]
theorem Reads.drop_rg {w : World} {B b o : Nat} {l : List I.Rg} (h : Reads w B 8 (some ⟨b, o, none⟩) l.length (I.rcs l)) {k : Nat} (hk : k ≤ l.length) : Reads w B 8 (some ⟨b, o + k * 8, none⟩) (l.length - k) (I.rcs (l.drop k)) := by
  refine ⟨by rw [I.rcs_len, List.length_drop], fun hn => ?_⟩
  obtain ⟨b', o', e, hb, hc⟩ := h.flat (by omega) (by decide)
  simp only [Option.some.injEq, Addr.mk.injEq, and_true] at e
  obtain ⟨rfl, rfl⟩ := e
  refine ⟨_, rfl, hb, fun j u hu => ?_⟩
  have e1 : ((⟨b, o + k * 8, none⟩ : Addr).add j) = ⟨b, o + (k * 8 + j), none⟩ := by unfold Addr.add; split <;> simp_all [Nat.add_assoc]
  rw [e1]
  refine hc (k * 8 + j) u ?_
  have e2 : I.rcs l = I.rcs (l.take k) ++ I.rcs (l.drop k) := by unfold I.rcs; rw [← List.flatMap_append, List.take_append_drop]
  have e3 : (I.rcs (l.take k)).length = k * 8 := by rw [I.rcs_len, List.length_take, Nat.min_eq_left hk]
  rw [e2, List.getElem?_append_right (by omega), e3, Nat.add_sub_cancel_left, hu]

set_option maxRecDepth 100000 in
set_option maxHeartbeats 16000000 in
theorem keeps_any (A : Option Addr) (c : Nat) (od : List I.Rg) (by_ un : Int) (w : World) (hr : Reads w w.heap.size 8 A od.length (I.rcs od)) (ho : I.Ok od) (hnum : ∀ r ∈ od, I.Num r) (hc : od.length ≤ c) (hb0 : 0 ≤ by_) (hb1 : by_ ≤ 255) :
    Calls Try.prog 3 #[.slice A od.length c, .int .u8 by_, .int .i64 un] w fun e w' => e = .returned (.bool true) ∧ Below w.heap.size w w' := by
  have G0 := Lib.hid (great_any A c w.heap.size od 12 w hr ho (by decide))
  have hl0 := ho.1
  unfold maxLen at hl0
  cases g0 : I.great od 12 with
  | true =>
    rw [g0] at G0
    clear hr ho hnum
    go_enter Try.func3, Try.ntmps3
    go_wp2_with fail
    refine G0.out.mono ?_
    rintro e w1 ⟨rfl, rfl⟩
    go_wp2_with fail
    refine (awake_any _).mono ?_
    rintro e w5 ⟨rfl, b5⟩
    go_wp2_with fail
    go_ret
    exact ⟨rfl, b5⟩
  | false =>
  rw [g0] at G0
  have l0 := (I.great_false g0).1
  clear g0
  have cases3 : (od.length = 0 ∨ (0 < od.length ∧ un < 0) ∨ (0 < od.length ∧ 0 ≤ un ∧ 1099511627776 < un)) ∨ (0 < od.length ∧ 0 ≤ un ∧ un ≤ 1099511627776) := by omega
  rcases cases3 with hu | ⟨hpos, u0, u1⟩
  · rcases hu with hu | ⟨hpos, hu⟩ | ⟨hpos, hu0, hu⟩
    · have q0 : ((od.length : Int) == 0) = true := beq_iff_eq.2 (by omega)
      clear hr ho hnum hu
      go_enter Try.func3, Try.ntmps3
      go_wp2_with fail
      refine G0.out.mono ?_
      rintro e w1 ⟨rfl, rfl⟩
      go_wp2_with fail
      refine (awake_any _).mono ?_
      rintro e w5 ⟨rfl, b5⟩
      go_wp2_with fail
      go_ret
      exact ⟨rfl, b5⟩
    all_goals
      have q0 : ((od.length : Int) == 0) = false := beq_eq_false_iff_ne.2 (by omega)
      clear hr ho hnum
      go_enter Try.func3, Try.ntmps3
      go_wp2_with fail
      refine G0.out.mono ?_
      rintro e w1 ⟨rfl, rfl⟩
      go_wp2_with fail
      refine (awake_any _).mono ?_
      rintro e w5 ⟨rfl, b5⟩
      go_wp2_with fail
      go_ret
      exact ⟨rfl, b5⟩
  have q0 : ((od.length : Int) == 0) = false := beq_eq_false_iff_ne.2 (by omega)
  obtain ⟨d, hd⟩ : ∃ d : Bool, d = true ↔ I.Diff od un := by
    by_cases h : I.Diff od un
    · exact ⟨true, by simp [h]⟩
    · exact ⟨false, by simp [h]⟩
  have DF := Lib.hid (different_any A c w.heap.size od un d w hr (by unfold maxLen; omega) hd)
  clear hd
  cases d with
  | false =>
    clear hr ho hnum
    go_enter Try.func3, Try.ntmps3
    go_wp2_with fail
    refine G0.out.mono ?_
    rintro e w1 ⟨rfl, rfl⟩
    go_wp2_with fail
    refine DF.out.mono ?_
    rintro e w1 ⟨rfl, n, rfl⟩
    go_wp2_with fail
    refine (awake_any _).mono ?_
    rintro e w5 ⟨rfl, b5⟩
    go_wp2_with fail
    go_ret
    exact ⟨rfl, (below_drewN (Below.refl _ w) n).trans b5⟩
  | true =>
  have HR := Lib.hid hr
  have HN := Lib.hid hnum
  clear hr ho hnum
  go_enter Try.func3, Try.ntmps3
  go_wp2_with fail
  refine G0.out.mono ?_
  rintro e w1 ⟨rfl, rfl⟩
  go_wp2_with fail
  refine DF.out.mono ?_
  rintro e w1 ⟨rfl, n, rfl⟩
  clear G0 DF
  go_wp2_with fail
  go_loopw [39] (fun i wr => ∃ k : Nat, k ≤ od.length ∧ i = .int .i64 k ∧ Hid (∀ j, j < k → I.proper (od.getD j default) = true ∧ ∀ t, t < j → I.like (od.getD j default) (od.getD t default) < 300) ∧ Hid (Below w.heap.size w wr)) (fun i _ => od.length - (intOf i).toNat)
  case atStart => exact ⟨0, Nat.zero_le _, rfl, Lib.hid (fun j h => absurd h (by omega)), Lib.hid (below_drewN (Below.refl _ w) n)⟩
  case round =>
    obtain ⟨k, hk, rfl, hap, hbl⟩ := hrel
    by_cases hlt : k < od.length
    · obtain ⟨b1, o1, rfl, hb1', h1⟩ := (HR.out.below hbl.out (Nat.le_refl _)).rg (by omega)
      have a1 := h1 k hlt
      have q1 : (0 : Int) ≤ (k : Int) := by omega
      have q2 : (k : Int) < (od.length : Int) := by omega
      have PR := Lib.hid (refproper_any (od.getD k default) wr)
      obtain ⟨x0, x1, x2, x3, x4, x5, x6, x7⟩ := a1
      simp only [I.Rg.val, I.Rg.cells] at PR
      clear h1
      cases hp : I.proper (od.getD k default) with
      | false =>
        rw [hp] at PR
        obtain ⟨r, hrr⟩ : ∃ r, od.getD k default = r := ⟨_, rfl⟩
        rw [hrr] at x0 x1 x2 x3 x4 x5 x6 x7 PR
        clear hrr
        go_wp2_with fail
        refine PR.out.mono ?_
        rintro e w2 ⟨rfl, b2⟩
        go_wp2_with fail
        refine (awake_any _).mono ?_
        rintro e w5 ⟨rfl, b5⟩
        go_wp2_with fail
        go_ret
        exact ⟨ret_bool rfl, hbl.out.trans ((b2.mono hbl.out.size).trans (b5.mono (Nat.le_trans hbl.out.size b2.size)))⟩
      | true =>
        rw [hp] at PR
        obtain ⟨r, hrr⟩ : ∃ r, od.getD k default = r := ⟨_, rfl⟩
        have HRR := Lib.hid hrr
        have HP := Lib.hid hp
        rw [hrr] at x0 x1 x2 x3 x4 x5 x6 x7 PR
        clear hrr hp
        go_wp2_with fail
        refine PR.out.mono ?_
        rintro e w2 ⟨rfl, b2⟩
        have hb2 := Lib.hid (hbl.out.trans (b2.mono hbl.out.size))
        clear PR
        go_wp2_with fail
        go_loopw [50] (fun i wr => ∃ m : Nat, m ≤ k ∧ i = .int .i64 m ∧ Hid (∀ t, t < m → I.like (od.getD k default) (od.getD t default) < 300) ∧ Hid (Below w.heap.size w wr)) (fun i _ => k - (intOf i).toNat)
        case atStart => exact ⟨0, Nat.zero_le _, rfl, Lib.hid (fun j h => absurd h (by omega)), hb2⟩
        case round =>
          obtain ⟨m, hm, rfl, hin, hbi⟩ := hrel
          by_cases hml : m < k
          · obtain ⟨b1', o1', he1, hb1'', h1⟩ := (HR.out.below hbi.out (Nat.le_refl _)).rg (by omega)
            obtain ⟨rfl, rfl⟩ : b1 = b1' ∧ o1 = o1' := by simpa using he1
            have a1 := h1 k hlt
            have a2 := h1 m (by omega)
            have LK := Lib.hid (fun w1 => reflike_any (od.getD k default) (od.getD m default) w1)
            rw [HRR.out] at a1 LK
            obtain ⟨y0, y1, y2, y3, y4, y5, y6, y7⟩ := a1
            obtain ⟨z0, z1, z2, z3, z4, z5, z6, z7⟩ := a2
            obtain ⟨q, hq⟩ : ∃ q, od.getD m default = q := ⟨_, rfl⟩
            have HQQ := Lib.hid hq
            rw [hq] at z0 z1 z2 z3 z4 z5 z6 z7 LK
            obtain ⟨v, hv⟩ : ∃ v, I.like r q = v := ⟨_, rfl⟩
            rw [hv] at LK
            have HV := Lib.hid hv
            simp only [I.Rg.val, I.Rg.cells] at LK
            have q3 : (0 : Int) ≤ (m : Int) := by omega
            have q4 : (m : Int) < (od.length : Int) := by omega
            clear h1 hq hv he1 hb1''
            go_wp2_with fail
            go_still_tail 8, (by kernel_rfl)
            go_wp2_with fail
            refine (LK.out _).mono ?_
            rintro e w6 ⟨rfl, b6⟩
            by_cases h3 : 300 ≤ v
            · go_wp2_with fail
              refine (awake_any _).mono ?_
              rintro e w5 ⟨rfl, b5⟩
              go_wp2_with fail
              go_ret
              exact ⟨ret_bool rfl, hbi.out.drew.trans ((b6.mono hbi.out.size).trans (b5.mono (Nat.le_trans hbi.out.size b6.size)))⟩
            · have h4 : Hid (∀ t, t < m + 1 → I.like (od.getD k default) (od.getD t default) < 300) := Lib.hid (fun t ht => by
                by_cases e : t = m
                · subst e; rw [HRR.out, HQQ.out, HV.out]; omega
                · exact hin.out t (by omega))
              go_wp2_with fail
              refine ⟨⟨m + 1, by omega, by go_num, h4, Lib.hid (hbi.out.drew.trans (b6.mono hbi.out.size))⟩, by simp [intOf]; omega⟩
          · obtain rfl : m = k := by omega
            have h4 : Hid (∀ j, j < m + 1 → I.proper (od.getD j default) = true ∧ ∀ t, t < j → I.like (od.getD j default) (od.getD t default) < 300) := Lib.hid (fun j hj => by
              by_cases e : j = m
              · subst e; exact ⟨HP.out, hin.out⟩
              · exact hap.out j (by omega))
            clear x0 x1 x2 x3 x4 x5 x6 x7
            go_wp2_with fail
            refine ⟨⟨m + 1, by omega, by go_num, h4, hbi⟩, by simp [intOf]; omega⟩
    · obtain rfl : k = od.length := by omega
      have AP : Hid (I.Apart od) := Lib.hid ⟨fun i hi => (hap.out i hi).1, fun i t hi ht => (hap.out i hi).2 t ht⟩
      have hx : ∃ x : Nat, by_ = x ∧ x ≤ 255 := ⟨by_.toNat, by omega, by omega⟩
      obtain ⟨x, rfl, hx⟩ := hx
      clear hap
      go_wp2_with fail
      have km : ((x : Int) % (od.length : Int)) = ((x % od.length : Nat) : Int) := by omega
      rw [km]
      have hkn : x % od.length < od.length := Nat.mod_lt _ hpos
      generalize x % od.length = k at *
      clear km
      obtain ⟨b1, o1, rfl, hb1', -⟩ := (HR.out.below hbl.out (Nat.le_refl _)).rg hpos
      obtain ⟨i0, hi, hz0, hz1, hz2⟩ := info_parts infoRg
      have s1 := slice_suf b1 o1 hkn hc
      have s2 := slice_pre (some ⟨b1, o1, none⟩) (Nat.le_of_lt hkn) hc
      have own0 := World.ownsRow_lit (base := wr.heap.size) (e := 27) (size := 8) wr.drew #[] 0 (Nat.le_refl _) (by decide) rfl
      have bl0 : Below wr.heap.size wr (wr.drew.alloc (.cells #[] 27)) := ((Below.refl _ wr).drew).alloc (Nat.le_refl _) _
      have rD : Reads (wr.drew.alloc (.cells #[] 27)) w.heap.size 8 (some ⟨b1, o1 + k * 8, none⟩) (od.length - k) (I.rcs (od.drop k)) := (HR.out.below (hbl.out.trans (bl0.mono hbl.out.size)) (Nat.le_refl _)).drop_rg (Nat.le_of_lt hkn)
      have hws := hbl.out.size
      go_region_law (first
        | (refine step_append_any _ rfl (.tmp 71) (.tmp 74) 22 rfl wr.heap.size 27 i0 _ 8 72 Try.underlying22 hi hz0 hz1 hz2 rfl (by decide) (.slice (some ⟨wr.heap.size, 0, none⟩) 0 0) 0 [] rfl own0 w.heap.size (some ⟨b1, o1 + k * 8, none⟩) (od.length - k) (c - k) (I.rcs (od.drop k)) rfl rD (I.rcs_one _) (by simp only [maxLen]; omega) (by omega) bl0.size ?_; intro v1 W1 hown1 hgrow1 hnew1; have bl1 : Below wr.heap.size wr W1 := bl0.grown hgrow1 bl0.size (own_below own0 (Nat.le_refl _)); have rT : Reads W1 w.heap.size 8 (some ⟨b1, o1, none⟩) k (I.rcs (od.take k)) := (by have := (HR.out.below (hbl.out.trans (bl1.mono hbl.out.size)) (Nat.le_refl _)).take_rg (Nat.le_of_lt hkn); rw [List.length_take, Nat.min_eq_left (Nat.le_of_lt hkn)] at this; exact this))
        | (refine step_append_any _ rfl (.tmp 75) (.tmp 78) 22 rfl wr.heap.size 27 i0 _ 8 72 Try.underlying22 hi hz0 hz1 hz2 rfl (by decide) v1 _ _ rfl hown1 w.heap.size (some ⟨b1, o1, none⟩) k c (I.rcs (od.take k)) rfl rT (I.rcs_one _) (by simp only [maxLen]; omega) (by omega) bl1.size ?_; intro v2 W2 hown2 hgrow2 hnew2; have bl2 : Below wr.heap.size wr W2 := bl1.grown hgrow2 bl1.size (own_below hown1 (Nat.le_refl _))))
      all_goals
        have hown3 : W2.ownsRow wr.heap.size 27 8 v2 od.length (I.rcs (I.rot od k)) := by
          have e1 : 0 + (od.length - k) + k = od.length := by omega
          have e2 : [] ++ I.rcs (od.drop k) ++ I.rcs (od.take k) = I.rcs (I.rot od k) := by simp [I.rcs, I.rot]
          rw [← e1, ← e2]; exact hown2
        have hlr : (I.rot od k).length = od.length := I.rot_length (Nat.le_of_lt hkn)
        obtain ⟨g, cg, rfl, hg1, hg2⟩ := hown3.form hpos
        have hcg : od.length ≤ cg := by
          rcases hown3.2 with ⟨h, _⟩ | ⟨g', cap, cur, h, _, _, hnc, _⟩
          · cases h
          · injection h with h1 h2 h3; omega
        have HOWN := Lib.hid hown3
        have HBL := Lib.hid (hbl.out.trans (bl2.mono hbl.out.size))
        have hw2 := bl2.size
        have HREL := Lib.hid (fun N => I.keeps (N := N) hkn AP.out)
        have HKN := Lib.hid hkn
        clear s1 s2 own0 bl0 rD rT bl1 bl2 hown1 hgrow1 hnew1 hown2 hgrow2 hnew2 hown3 hbl hkn
        have own0 := World.ownsRow_lit (base := W2.heap.size) (e := 27) (size := 8) W2 #[] 0 (Nat.le_refl _) (by decide) rfl
        have b0 : Below W2.heap.size W2 (W2.alloc (.cells #[] 27)) := (Below.refl _ _).alloc (Nat.le_refl _) _
        have rG : Reads (W2.alloc (.cells #[] 27)) W2.heap.size 8 (some ⟨g, 0, none⟩) od.length (I.rcs (I.rot od k)) := (Reads.of_own HOWN.out).below b0 (Nat.le_refl _)
        go_wp2_with (at_builtin; refine wpList_append_any _ rfl (.tmp 80) (.tmp 81) _ rfl W2.heap.size 27 i0 _ 8 72 Try.underlying22 hi hz0 hz1 hz2 rfl (by decide) (.slice (some ⟨W2.heap.size, 0, none⟩) 0 0) 0 [] rfl own0 W2.heap.size (some ⟨g, 0, none⟩) od.length cg (I.rcs (I.rot od k)) rfl rG (I.rcs_one _) (by simp only [maxLen]; omega) (by omega) b0.size ?_; intro v3 W3 hown3 hgrow3 hnew3)
        have b3 : Below W2.heap.size W2 W3 := b0.grown hgrow3 b0.size (own_below own0 (Nat.le_refl _))
        have O3 : Hid (W3.ownsRow W2.heap.size 27 8 v3 od.length (I.rcs (I.rot od k))) := Lib.hid (by rw [Nat.zero_add, List.nil_append] at hown3; exact hown3)
        have O2 : Hid (W3.ownsRow wr.heap.size 27 8 (.slice (some ⟨g, 0, none⟩) od.length cg) od.length (I.rcs (I.zk (I.rot od k) 0))) := Lib.hid (by rw [I.zk_zero]; exact own_under HOWN.out b3)
        have B3 := Lib.hid (HBL.out.trans (b3.mono HBL.out.size))
        obtain ⟨L, hL⟩ : ∃ L, wr.heap.size = L := ⟨_, rfl⟩
        rw [hL] at O2 hg1 hws
        clear hL own0 b0 rG hown3 hgrow3 hnew3 b3 HOWN HBL hw2
        go_loopw [85] (fun i wr => ∃ m : Nat, m ≤ od.length ∧ i = .int .i64 m ∧ Hid (wr.ownsRow L 27 8 (.slice (some ⟨g, 0, none⟩) od.length cg) od.length (I.rcs (I.zk (I.rot od k) m))) ∧ Hid (wr.ownsRow W2.heap.size 27 8 v3 od.length (I.rcs (I.rot od k))) ∧ Hid (Below w.heap.size w wr)) (fun i _ => od.length - (intOf i).toNat)
        case atStart => exact ⟨0, Nat.zero_le _, rfl, O2, O3, B3⟩
        case round =>
          clear O2 O3 B3
          obtain ⟨m, hm, rfl, o2, o3, hbl⟩ := hrel
          by_cases hml : m < od.length
          · have a1 := I.own_at o2.out (i := m) (by rw [I.zk_len _ (by omega)]; omega)
            have c1 := a1.c1
            have f1 := o2.out.frozenAt (m * 8 + 1)
            have hst := Lib.hid (o2.out.stored (m * 8 + 1) (.int .i64 0)).1
            have q1 : (0 : Int) ≤ (m : Int) := by omega
            have q2 : (m : Int) < (od.length : Int) := by omega
            clear a1
            go_wp2_with fail
            refine ⟨⟨m + 1, by omega, by go_num, Lib.hid ?_, Lib.hid (ownsRow_setCell_below o3.out hg2 _), Lib.hid (hbl.out.setCell (by show w.heap.size ≤ g; omega) _)⟩, by simp [intOf]; omega⟩
            have h := hst.out
            rw [I.rcs_set _ (by rw [I.zk_len _ (by omega)]; omega), I.zk_succ _ (by omega)] at h
            exact h
          · obtain rfl : m = od.length := by omega
            have q2 : ((od.length : Int) < (od.length : Int)) = False := eq_false (by omega)
            have hz : (I.zeroed (I.rot od k)).length = od.length := by rw [I.zeroed_length, hlr]
            have e1 : I.zk (I.rot od k) od.length = I.zeroed (I.rot od k) := by rw [← hlr]; exact I.zk_all _
            have rN : Reads wr wr.heap.size 8 (some ⟨g, 0, none⟩) (I.zeroed (I.rot od k)).length (I.rcs (I.zeroed (I.rot od k))) := by rw [hz, ← e1]; exact Reads.of_own o2.out
            have rO := (HR.out.below hbl.out (Nat.le_refl _)).more hbl.out.size
            have M := Lib.hid (matchun_any wr.heap.size (some ⟨b1, o1, none⟩) (some ⟨g, 0, none⟩) c cg od (I.zeroed (I.rot od k)) un wr rO rN (Nat.le_refl _) hc (by omega) (by omega) (by omega) ⟨u0, by omega⟩)
            rw [hz] at M
            have hcg3 := Lib.hid o3.out
            clear rN rO e1 o2
            go_wp2_with fail
            refine M.out.mono ?_
            rintro e W4 ⟨N, Ar, c4, rfl, own4, best, b4⟩
            have HK := HREL.out N best
            have hkn := HKN.out
            rw [I.keeps_outs hkn un HK, hz] at own4
            rw [hz, I.keeps_cnt HK od.length (Nat.le_refl _)]
            have e2 : un + ((0 : Nat) : Int) = un := by omega
            rw [e2]
            have O5 := own_under hcg3.out b4
            obtain ⟨A3, c3, rfl, r3⟩ := own_reads O5
            have r4 := Reads.of_own own4
            have HBL := Lib.hid (hbl.out.trans (b4.mono hbl.out.size))
            have SM := Lib.hid (same_any Ar A3 c4 c3 W4.heap.size (I.rot od k) (I.rot od k) W4 (by rw [hlr]; exact r4) (by rw [hlr]; exact r3) (by rw [hlr]; unfold maxLen; omega) (by rw [hlr]; unfold maxLen; omega))
            rw [hlr, decide_eq_true rfl] at SM
            have hmr : ∀ r ∈ I.rot od k, I.Num r := fun r hr => HN.out r (by
              unfold I.rot at hr
              rcases List.mem_append.1 hr with h | h
              · exact List.mem_of_mem_drop h
              · exact List.mem_of_mem_take h)
            have GN := Lib.hid (fun n => gone_any (some ⟨b1, o1, none⟩) Ar c c4 W4.heap.size od (I.rot od k) (W4.drewN n) (((HR.out.below HBL.out (Nat.le_refl _)).more HBL.out.size).drewN n) (by rw [hlr]; exact r4.drewN n) (Nat.le_refl _) HN.out hmr (by omega) (by rw [hlr]; omega))
            rw [hlr, I.keeps_gone hkn od.length (Nat.le_refl _)] at GN
            have q4 : (un == un) = true := beq_self_eq_true _
            clear M HK best own4 O5 r3 r4 hcg3 o3 HR HN AP hmr HREL
            go_wp2_with fail
            refine SM.out.mono ?_
            rintro e W5 ⟨rfl, n5, rfl⟩
            go_wp2_with fail
            refine (GN.out _).mono ?_
            rintro e W6 ⟨v6, rfl, own6, b6⟩
            obtain ⟨A6, c6, rfl, -⟩ := own_reads own6
            go_wp2_with fail
            refine (awake_any _).mono ?_
            rintro e W7 ⟨rfl, b7⟩
            go_wp2_with fail
            go_ret
            exact ⟨ret_bool (by simp), HBL.out.trans (((below_drewN (Below.refl _ W4) n5).trans (b6.trans (b7.mono b6.size))).mono HBL.out.size)⟩
theorem keepslaw_any (A : Option Addr) (c : Nat) (od : List I.Rg) (by_ un : Int) (w : World) (hr : Reads w w.heap.size 8 A od.length (I.rcs od)) (ho : I.Ok od) (hnum : ∀ r ∈ od, I.Num r) (hc : od.length ≤ c) (hb0 : 0 ≤ by_) (hb1 : by_ ≤ 255) (_ : -9223372036854775808 ≤ un) (_ : un ≤ 9223372036854775807) :
    Calls Try.prog 3 #[.slice A od.length c, .int .u8 by_, .int .i64 un] w fun e w' => e = .returned (.bool true) ∧ Below w.heap.size w w' := keeps_any A c od by_ un w hr ho hnum hc hb0 hb1
end Go.Proofs.Ytoemhphgnpedmaa
