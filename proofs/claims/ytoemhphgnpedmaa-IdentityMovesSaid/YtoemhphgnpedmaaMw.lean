/-
  The walks of layer 30: Match. By an AI agent.
-/
import Derived.Deep.DeepCutAuto
import Derived.Deep.RegionHeld3
import Derived.Laws.EntriesVeiled
import Derived.StillTailTactics
import Derived.Test.YtoemhphgnpedmaaMp
namespace Go.Proofs.Ytoemhphgnpedmaa
open Go.RowKit

theorem addr_add_zero (a : Addr) : a.add 0 = a := by unfold Addr.add; simp
theorem slice_all (A : Option Addr) {n c : Nat} (hc : n ≤ c) : ∀ w' : World, (Instr.sliceAt 22 (.slice A n c) none (some (.int .i64 (n : Int))) none).run Try.prog w' = .ok (.slice A n c) w' := by
  intro w'
  have ht : Try.prog.underlying 22 = some (.slice (Try.prog.elem 22)) := by kernel_rfl
  have hs : (sizeOf (Try.prog.elem 22)).run Try.prog w' = .ok 8 w' := by kernel_rfl
  rw [run_sliceAt_slice _ _ _ _ _ _ ht, run_slice_h _ _ _ _ _ ht .i64 (n : Int) (by omega) (by omega), hs]
  simp only [Result.andThen, sliced, Nat.zero_mul, Int.toNat_natCast, Nat.sub_zero]
  cases A <;> simp [addr_add_zero]
theorem C.asg_get (n : Nat) (N : Nat → Nat) {i : Nat} (h : i < (C.asg n N).length) : (C.asg n N)[i] = ((N (i + 1) : Nat) : Int) - 1 := by simp [C.asg]
theorem I.Env.drewN {w : World} {B Ba Bb : Nat} {Aa Ab : Option Addr} {ca cb : Nat} {nx od : List I.Rg} (h : I.Env w B Ba Bb Aa Ab ca cb nx od) (q : Nat) : I.Env (w.drewN q) B Ba Bb Aa Ab ca cb nx od :=
  h.below (below_drewN (Below.refl _ _) q)
theorem I.pf_at {n i : Nat} {N : Nat → Nat} (h : A.Pf n N) (hi : i < n) : 1 ≤ N (i + 1) ∧ N (i + 1) ≤ n := h.rg (i + 1) (by omega) (by omega)
theorem I.rcs_len (l : List I.Rg) : (I.rcs l).length = l.length * 8 := by
  induction l with
  | nil => rfl
  | cons r l ih =>
    have e : I.rcs (r :: l) = r.cells ++ I.rcs l := rfl
    rw [e, List.length_append, ih, I.cells_len, List.length_cons]
    omega
theorem I.own_at {w : World} {base g c : Nat} {l : List I.Rg} {n : Nat} (h : w.ownsRow base 27 8 (.slice (some ⟨g, 0, none⟩) n c) n (I.rcs l)) {i : Nat} (hi : i < l.length) : I.At w g (i * 8) (l.getD i default) := by
  have hl : l.length = n := by
    have := h.1
    rw [I.rcs_len] at this
    omega
  obtain ⟨A', c', he, hr⟩ := own_reads h
  injection he with he1
  subst he1
  rw [← hl] at hr
  obtain ⟨b, o, hbo, _, hc⟩ := hr.rg (by omega)
  injection hbo with hbo
  injection hbo with h1 h2
  subst h1; subst h2
  have := hc i hi
  rw [Nat.zero_add] at this
  exact this
/-- What lies in memory in Match's loop. -/
structure I.MJ (w wr : World) (B Ba Bb Bl L : Nat) (An Ao : Option Addr) (cn co : Nat) (nx od : List I.Rg) (N : Nat → Nat) (un : Int) (v0 vl : Value) (n i : Nat) : Prop where
  own : wr.ownsRow w.heap.size 27 8 v0 nx.length (I.rcs (I.mix nx od N un i))
  env : I.Env wr B Ba Bb An Ao cn co nx od
  fn : wr.cell? ⟨Bl, 0, none⟩ = some (.func (.func 27) #[] #[.pointer (some ⟨Ba, 0, none⟩), .pointer (some ⟨Bb, 0, none⟩)])
  ll : Bl < wr.heap.size
  num : wr.ownsRow L 3 1 vl n (C.ns (C.asg n N))
  bl : Below w.heap.size w wr
theorem I.MJ.under {w wr w' : World} {B Ba Bb Bl L : Nat} {An Ao : Option Addr} {cn co : Nat} {nx od : List I.Rg} {N : Nat → Nat} {un : Int} {v0 vl : Value} {n i : Nat} (h : I.MJ w wr B Ba Bb Bl L An Ao cn co nx od N un v0 vl n i) (hb : Below wr.heap.size wr w') : I.MJ w w' B Ba Bb Bl L An Ao cn co nx od N un v0 vl n i :=
  ⟨own_under h.own hb, h.env.below hb, (hb.cell (p := ⟨Bl, 0, none⟩) h.ll).trans h.fn, Nat.lt_of_lt_of_le h.ll hb.size, own_under h.num hb, h.bl.trans (hb.mono h.bl.size)⟩
theorem I.MJ.set {w wr : World} {B Ba Bb Bl L g c0 : Nat} {An Ao : Option Addr} {cn co : Nat} {nx od : List I.Rg} {N : Nat → Nat} {un : Int} {vl : Value} {n i : Nat} (h : I.MJ w wr B Ba Bb Bl L An Ao cn co nx od N un (.slice (some ⟨g, 0, none⟩) nx.length c0) vl n i) (hi : i < nx.length) (hB : B ≤ w.heap.size) (ha : g < Ba) (hb : g < Bb) (hl : g < Bl) (hL : g < L) :
    I.MJ w (wr.setCell ⟨g, i * 8 + 1, none⟩ (.int .i64 (I.idW nx od N un i))) B Ba Bb Bl L An Ao cn co nx od N un (.slice (some ⟨g, 0, none⟩) nx.length c0) vl n (i + 1) := by
  have hg := (h.own.lt g rfl).1
  have hst := (h.own.stored (i * 8 + 1) (.int .i64 (I.idW nx od N un i))).1
  rw [I.mix_set _ _ _ _ hi] at hst
  have hb0 : Below w.heap.size w (wr.setCell ⟨g, i * 8 + 1, none⟩ (.int .i64 (I.idW nx od N un i))) := h.bl.setCell hg _
  have other : ∀ b : Nat, g ≠ b → (wr.setCell ⟨g, i * 8 + 1, none⟩ (.int .i64 (I.idW nx od N un i))).cell? ⟨b, 0, none⟩ = wr.cell? ⟨b, 0, none⟩ := fun b hne => by
    have := World.cell?_of_block (w := wr) (w' := wr.setCell ⟨g, i * 8 + 1, none⟩ (.int .i64 (I.idW nx od N un i))) (a := ⟨b, 0, none⟩) (heap_setCell_other wr ⟨g, i * 8 + 1, none⟩ b _ (Ne.symm hne))
    exact this
  refine ⟨hst, ⟨(other Ba (by omega)).trans h.env.a, (other Bb (by omega)).trans h.env.b, by simpa using h.env.la, by simpa using h.env.lb, ?_, ?_, by simpa using h.env.hB⟩, (other Bl (by omega)).trans h.fn, by simpa using h.ll, ownsRow_setCell_below h.num hL _, hb0⟩
  · exact h.env.ra.keep (fun p hp => World.cell?_of_block (w := wr) (heap_setCell_other wr ⟨g, i * 8 + 1, none⟩ p.block _ (by show p.block ≠ g; omega)))
  · exact h.env.rb.keep (fun p hp => World.cell?_of_block (w := wr) (heap_setCell_other wr ⟨g, i * 8 + 1, none⟩ p.block _ (by show p.block ≠ g; omega)))
set_option maxRecDepth 100000 in
set_option maxHeartbeats 16000000 in
theorem match_any (B : Nat) (Ao An : Option Addr) (co cn : Nat) (od nx : List I.Rg) (un : Int) (w : World) (hro : Reads w B 8 Ao od.length (I.rcs od)) (hrn : Reads w B 8 An nx.length (I.rcs nx)) (hB : B ≤ w.heap.size) (hco : od.length ≤ co) (hcn : nx.length ≤ cn) (hlo : od.length ≤ 40) (hln : nx.length ≤ 40) (hu : -9223372036854775808 ≤ un ∧ un ≤ 9223372036854775807) :
    Calls Try.prog 16 #[.slice Ao od.length co, .slice An nx.length cn, .int .i64 un] w fun e w' => I.MatchOut nx od un w w' e := by
  have CL := Lib.hid (clone_any An cn B nx w hrn hB (by omega))
  have SA := slice_all An hcn
  have SO := slice_all Ao hco
  have m1 : min (40 : Int) (nx.length : Int) = (nx.length : Int) := by omega
  have m2 : min (40 : Int) (od.length : Int) = (od.length : Int) := by omega
  have HRO := Lib.hid hro
  have HRN := Lib.hid hrn
  clear hro hrn
  go_enter Try.func16, Try.ntmps16
  go_wp2_with fail
  refine CL.out.mono ?_
  rintro e' w1 ⟨v0, rfl, hown, b1⟩
  have HG : Hid (∀ g, v0.ownBlock = some g → g < w1.heap.size) := Lib.hid (fun g e => (hown.lt g e).2)
  have OW0 := Lib.hid hown
  have B1 := Lib.hid b1
  clear hown b1 CL
  go_upto_region 2 with fail
  go_cut [9, 10] (fun s9 s10 wx => ∃ Ba Bb : Nat, s9 = .pointer (some ⟨Ba, 0, none⟩) ∧ s10 = .pointer (some ⟨Bb, 0, none⟩) ∧ wx.cell? ⟨Ba, 0, none⟩ = some (.slice An nx.length cn) ∧ wx.cell? ⟨Bb, 0, none⟩ = some (.slice Ao od.length co) ∧ w1.heap.size ≤ Ba ∧ w1.heap.size ≤ Bb ∧ Ba < wx.heap.size ∧ Bb < wx.heap.size ∧ Below w1.heap.size w1 wx)
  case first =>
    go_region
    all_goals
      go_wp2_with fail
      go_meet
      refine ⟨_, _, rfl, rfl, ?_, ?_, ?_, ?_, ?_, ?_, ?_⟩
      all_goals first | (simp; done) | omega | (simp; omega) | exact (((Below.refl _ _).alloc (Nat.le_refl _) _).alloc (by simp) _).drew
  case rest =>
    obtain ⟨Ba, Bb, rfl, rfl, xa, xb, la1, lb1, la, lb, b2⟩ := hcut
    have hbc : Below w.heap.size w wc := B1.out.trans (b2.mono B1.out.size)
    obtain ⟨n, hn⟩ : ∃ n, I.dim nx od = n := ⟨_, rfl⟩
    have hn40 : n ≤ 40 := by rw [← hn]; unfold I.dim; omega
    have hnn : nx.length ≤ n := by rw [← hn]; unfold I.dim; omega
    have mx : max (nx.length : Int) (od.length : Int) = (n : Int) := by rw [← hn]; unfold I.dim; omega
    have HN := Lib.hid hn
    have E2 : I.Env (wc.alloc (.cells #[.func (.func 27) #[] #[.pointer (some ⟨Ba, 0, none⟩), .pointer (some ⟨Bb, 0, none⟩)]] 41)) B Ba Bb An Ao cn co nx od :=
      ⟨(World.cell?_alloc_lt wc _ ⟨Ba, 0, none⟩ la).trans xa, (World.cell?_alloc_lt wc _ ⟨Bb, 0, none⟩ lb).trans xb, by simp; omega, by simp; omega,
        (HRN.out.below hbc hB).alloc (Nat.le_trans hB hbc.size) _, (HRO.out.below hbc hB).alloc (Nat.le_trans hB hbc.size) _, by have := hbc.size; simp; omega⟩
    have MX := Lib.hid (matrix_any B Ba Bb wc.heap.size An Ao cn co nx od _ n E2 (by simp) (by simp) (by omega) (by omega) hn40)
    have hbc2 := hbc.alloc hbc.size (.cells #[.func (.func 27) #[] #[.pointer (some ⟨Ba, 0, none⟩), .pointer (some ⟨Bb, 0, none⟩)]] 41)
    obtain ⟨A0, c0, rfl, hrd0⟩ := own_reads OW0.out
    have OW2 := own_under (own_under OW0.out b2) ((Below.refl wc.heap.size wc).alloc (Nat.le_refl _) (.cells #[.func (.func 27) #[] #[.pointer (some ⟨Ba, 0, none⟩), .pointer (some ⟨Bb, 0, none⟩)]] 41))
    have J2 := Lib.hid (And.intro hbc2 (And.intro E2 (And.intro OW2 (show (wc.alloc (.cells #[.func (.func 27) #[] #[.pointer (some ⟨Ba, 0, none⟩), .pointer (some ⟨Bb, 0, none⟩)]] 41)).cell? ⟨wc.heap.size, 0, none⟩ = some (.func (.func 27) #[] #[.pointer (some ⟨Ba, 0, none⟩), .pointer (some ⟨Bb, 0, none⟩)]) from by simp))))
    have hl1 : w1.heap.size ≤ wc.heap.size := b2.size
    clear hrd0 hn E2 hbc hbc2 OW2 OW0 B1 b2 HRO HRN SA SO m1 m2
    go_wp2_with fail
    refine MX.out.mono ?_
    rintro e' w3 ⟨v3, rs, rfl, hom, hmt, hrs, b3⟩
    have SV := Lib.hid (solve_mtx nx od n hn40 v3 _ rs w3 hom hmt hrs)
    have B3 := Lib.hid b3
    clear hom hmt hrs b3 MX
    go_wp2_with fail
    refine SV.out.mono ?_
    rintro e' w4 ⟨Ar, ca, N, rfl, b4, own4, best⟩
    have BEST := Lib.hid best
    have JM : Hid (I.MJ w w4 B Ba Bb wc.heap.size w3.heap.size An Ao cn co nx od N un (.slice A0 nx.length c0) (.slice Ar n ca) n 0) := Lib.hid (by
      obtain ⟨k1, k2, k3, k4⟩ := J2.out
      have hb34 := B3.out.trans (b4.mono B3.out.size)
      have hk4 : wc.heap.size < (wc.alloc (.cells #[.func (.func 27) #[] #[.pointer (some ⟨Ba, 0, none⟩), .pointer (some ⟨Bb, 0, none⟩)]] 41)).heap.size := by simp
      exact ⟨by rw [I.mix_zero]; exact own_under k3 hb34, k2.below hb34, (hb34.cell (p := ⟨wc.heap.size, 0, none⟩) hk4).trans k4, Nat.lt_of_lt_of_le hk4 hb34.size, own4, k1.trans (hb34.mono k1.size)⟩)
    have hl3 : wc.heap.size < w3.heap.size := by have := B3.out.size; simp at this; omega
    obtain ⟨F, hF⟩ : ∃ F, wc.heap.size = F := ⟨_, rfl⟩
    obtain ⟨L, hL⟩ : ∃ L, w3.heap.size = L := ⟨_, rfl⟩
    rw [hF, hL] at JM
    rw [hF] at hl1 hl3 ⊢
    rw [hL] at hl3
    clear hF hL SV B3 J2 b4 own4 best xa xb la lb mx
    have UN : Hid (wrap64 (un + (I.cntF nx od N 0 : Nat)) = un) := Lib.hid (by simp only [I.cntF]; unfold wrap64; omega)
    go_wp2_with fail
    go_loopw [2, 41] (fun v2 v41 wr => ∃ i : Nat, v41 = .int .i64 i ∧ i ≤ nx.length ∧ v2 = .int .i64 (wrap64 (un + (I.cntF nx od N i : Nat))) ∧ Hid (I.MJ w wr B Ba Bb F L An Ao cn co nx od N un (.slice A0 nx.length c0) (.slice Ar n ca) n i)) (fun _ v41 _ => nx.length - (intOf v41).toNat)
    case atStart => exact ⟨0, rfl, by omega, by rw [UN.out], JM⟩
    case round =>
      clear JM UN
      obtain ⟨i, rfl, hin, rfl, hj⟩ := hrel
      by_cases hlt : i < nx.length
      · have own0 := hj.out.own
        obtain ⟨g, cap, hg⟩ := ownsRow_succ (k := nx.length - 1) (by rw [show nx.length - 1 + 1 = nx.length by omega]; exact own0)
        rw [show nx.length - 1 + 1 = nx.length by omega] at hg
        injection hg with hg1 hg2 hg3
        subst hg1
        have hglt := HG.out g rfl
        have rgI := I.pf_at BEST.out.pf (show i < n by omega)
        obtain ⟨k, hk⟩ : ∃ k, N (i + 1) - 1 = k := ⟨_, rfl⟩
        have hlc : (C.asg n N).length = n := C.asg_len n N
        obtain ⟨Al', cl', he', hrl⟩ := own_reads hj.out.num
        injection he' with he1 he2 he3
        subst he1
        have hrl2 : Reads wr wr.heap.size 1 Ar (C.asg n N).length (C.ns (C.asg n N)) := by rw [hlc]; exact hrl
        obtain ⟨bl, ol, rfl, hbl, hcl⟩ := C.nums_at hrl2 (by rw [hlc]; omega)
        have x0 := hcl i (by rw [hlc]; omega)
        rw [C.asg_get, show ((N (i + 1) : Nat) : Int) - 1 = (k : Int) by have := rgI.1; omega] at x0
        have xa := hj.out.env.a
        have xb := hj.out.env.b
        have xf := hj.out.fn
        have LK := Lib.hid (fun q => like27_any B Ba Bb An Ao cn co nx od (wr.drewN q) i k (hj.out.env.drewN q) (by omega) (by omega) (by omega) (by omega))
        have hbd := I.lk_bd nx od i k
        have hFR : I.fresh nx od N i = decide (I.lk nx od i k < 300) := by unfold I.fresh; rw [hk]
        have FR := Lib.hid hFR
        have HK := Lib.hid hk
        obtain ⟨v, hv⟩ : ∃ v, I.lk nx od i k = v := ⟨_, rfl⟩
        rw [hv] at LK hbd FR
        have HV := Lib.hid hv
        have q1 : (0 : Int) ≤ (i : Int) := by omega
        have q2 : (i : Int) < (n : Int) := by omega
        have q3 : (i : Int) < (nx.length : Int) := by omega
        have hll : F < wr.heap.size := hj.out.ll
        obtain ⟨u, hu0⟩ : ∃ u, wrap64 (un + (I.cntF nx od N i : Nat)) = u := ⟨_, rfl⟩
        rw [hu0]
        have HU := Lib.hid hu0
        clear own0 hg2 hg3 hk hlc hrl hrl2 hcl hFR hv hu0 he2 he3 rgI
        go_wp2_with fail
        go_still_tail 17, (by kernel_rfl)
        go_wp2_with fail
        refine (LK.out _).mono ?_
        rintro e' w5 ⟨rfl, b5⟩
        have HB5 := (below_drewN (Below.refl wr.heap.size wr) _).trans b5
        have J5 := Lib.hid (hj.out.under HB5)
        have y0 := (HB5.cell (p := ⟨bl, ol + i, none⟩) hbl).trans x0
        clear HB5
        clear LK b5 hj x0 xa xb xf
        by_cases h3 : 300 ≤ v
        · have h3b : decide (v < 300) = false := decide_eq_false (by omega)
          rw [h3b] at FR
          have hnf := I.not_fresh FR.out
          rw [HK.out] at hnf
          have hko := hnf.2.1
          obtain ⟨b2, o2, rfl, hb2, hc2⟩ := J5.out.env.rb.rg (by omega)
          have z1 := (hc2 k hko).c1
          have yb := J5.out.env.b
          have c1 := (I.own_at J5.out.own (by rw [I.mix_len]; exact hlt)).c1
          have f1 := J5.out.own.frozenAt (i * 8 + 1)
          have IDW : Hid (I.idW nx od N un i = (od.getD k default).id) := Lib.hid (by unfold I.idW; rw [if_neg (by rw [FR.out]; decide), HK.out])
          have J6 := Lib.hid (J5.out.set hlt hB (by omega) (by omega) (by omega) (by omega))
          rw [IDW.out] at J6
          obtain ⟨z, hz⟩ : ∃ z, (od.getD k default).id = z := ⟨_, rfl⟩
          rw [hz] at J6 z1
          have UN2 : Hid (u = wrap64 (un + (I.cntF nx od N (i + 1) : Nat))) := Lib.hid (by
            have e : I.cntF nx od N (i + 1) = I.cntF nx od N i := by simp only [I.cntF]; rw [if_neg (by rw [FR.out]; decide)]; rfl
            rw [e, ← HU.out])
          have q5 : (0 : Int) ≤ (k : Int) := by omega
          have q6 : (k : Int) < (od.length : Int) := by omega
          clear FR IDW J5 HU hc2 hnf hz
          go_wp2_with fail
          go_still_tail 10, (by kernel_rfl)
          go_wp2
          go_roundw
          case rel => exact ⟨i + 1, by go_num, hlt, by rw [← UN2.out], Lib.hid (J6.out.under (Below.refl _ _).drew)⟩
          case measure => simp [intOf] <;> omega
        · have h3b : decide (v < 300) = true := decide_eq_true (by omega)
          rw [h3b] at FR
          have c1 := (I.own_at J5.out.own (by rw [I.mix_len]; exact hlt)).c1
          have f1 := J5.out.own.frozenAt (i * 8 + 1)
          have IDW : Hid (I.idW nx od N un i = u) := Lib.hid (by unfold I.idW; rw [if_pos FR.out]; exact HU.out)
          have J6 := Lib.hid (J5.out.set hlt hB (by omega) (by omega) (by omega) (by omega))
          rw [IDW.out] at J6
          have UN2 : Hid (wrap64 (u + 1) = wrap64 (un + (I.cntF nx od N (i + 1) : Nat))) := Lib.hid (by
            have e : I.cntF nx od N (i + 1) = I.cntF nx od N i + 1 := by simp only [I.cntF]; rw [if_pos FR.out]
            rw [e, ← HU.out]
            unfold wrap64
            omega)
          clear FR IDW J5 HU
          go_wp2
          go_roundw
          case rel => exact ⟨i + 1, by go_num, hlt, by rw [UN2.out], J6⟩
          case measure => simp [intOf] <;> omega
      · obtain rfl : i = nx.length := by omega
        go_wp2_with fail
        go_ret2
        exact ⟨N, _, rfl, by rw [← I.mix_all]; exact hj.out.own, by rw [HN.out]; exact BEST.out, hj.out.bl⟩
end Go.Proofs.Ytoemhphgnpedmaa
