/-
  The statements of layer 17: RowdiffRoundTrip. By an AI agent.
-/
import Derived.Test.YteakiielcmgkeaaLwp
import Derived.Test.YteakiielcmgkeaaApx
namespace Go.Proofs.Yteakiielcmgkeaa
set_option linter.unusedSimpArgs false
set_option linter.unusedVariables false
open Go.RowKit Go.Deep

set_option maxRecDepth 100000 in
set_option maxHeartbeats 8000000 in
theorem roundtrip_any (A1 : Option Addr) (c1 : Nat) (a : List R.G) (A2 : Option Addr) (c2 : Nat) (b : List R.G) (w : World) (ha : Reads w w.heap.size 3 A1 a.length (R.gcs a)) (hla : a.length ≤ maxLen) (hca : a.length ≤ c1) (hb : Reads w w.heap.size 3 A2 b.length (R.gcs b)) (hlb : b.length ≤ maxLen) (hcb : b.length ≤ c2) :
    Calls Try.prog 9 #[.slice A1 a.length c1, .slice A2 b.length c2] w fun e w' => e = .returned (.bool true) ∧ Below w.heap.size w w' := by
  have FN := Lib.hid (fine2_any A1 A2 c1 c2 a.length b.length w hla hlb)
  have b0 : Below w.heap.size w (w.alloc (.cells #[.slice A1 a.length c1, .slice A2 b.length c2] 22)) := (Below.refl _ _).alloc (Nat.le_refl _) _
  have B0 := Lib.hid b0
  have HA := Lib.hid ha
  have HB := Lib.hid hb
  clear ha hb hla hlb
  cases hf : R.fine [a.length, b.length] with
  | false =>
    rw [hf] at FN
    clear hf b0
    go_enter Try.func9, Try.ntmps9
    go_wp2_with fail
    refine FN.out.mono ?_
    rintro e w1 ⟨rfl, rfl⟩
    go_wp2_with fail
    refine (awake_any _).mono ?_
    rintro e w5 ⟨rfl, b5⟩
    go_wp2_with fail
    go_ret
    exact ⟨rfl, B0.out.trans (b5.mono B0.out.size)⟩
  | true =>
  rw [hf] at FN
  obtain ⟨la, lb⟩ := R.fine2 hf
  clear hf b0
  go_enter Try.func9, Try.ntmps9
  go_wp2_with fail
  refine FN.out.mono ?_
  rintro e w1 ⟨rfl, rfl⟩
  obtain ⟨W1, hW1⟩ : ∃ W, w.alloc (.cells #[.slice A1 a.length c1, .slice A2 b.length c2] 22) = W := ⟨_, rfl⟩
  rw [hW1] at B0 ⊢
  clear hW1 FN
  have ta := trim_len a
  have tb := trim_len b
  have T1 := Lib.hid (trim_any A1 c1 w.heap.size a W1 (HA.out.below B0.out (Nat.le_refl _)) B0.out.size (by omega) hca)
  go_wp2_with fail
  refine T1.out.mono ?_
  rintro e w2 ⟨v2, rfl, own2, b2⟩
  obtain ⟨A3, c3, rfl, r3, hc3⟩ := own_reads_cap own2
  have R3 := Lib.hid r3
  have B2 := Lib.hid (B0.out.trans (b2.mono B0.out.size))
  have SP := Lib.hid (splices_any A1 A2 c1 c2 w.heap.size 7 a b w2 (HA.out.below B2.out (Nat.le_refl _)) (HB.out.below B2.out (Nat.le_refl _)) B2.out.size (by omega) (by omega) hca hcb)
  clear T1 own2 r3 b2 B0
  go_wp2_with fail
  refine SP.out.mono ?_
  rintro e w3 ⟨v3, xs, rfl, own3, hx, b3⟩
  obtain ⟨A4, c4, rfl, ch4, _⟩ := own3.chs
  have lx := R.sp_low (by omega) (by omega) hx
  have hxl : xs.length = (R.splices R.bl a b).length := by have := congrArg List.length hx; simpa using this
  have HX := Lib.hid hx
  have HXL := Lib.hid hxl
  have CH4 := Lib.hid ch4
  have B3 := Lib.hid (B2.out.trans (b3.mono B2.out.size))
  have RT := Lib.hid (R.roundtrip R.bl R.sp a b (by omega))
  have GS := Lib.hid (R.glsum_splices (a := a) (b := b) (by omega) (by omega))
  have hxn := lx.1
  have XK : Hid (∀ k (h : k < xs.length) (h2 : k < (R.splices R.bl a b).length), xs[k].c = R.Cx.of 7 (R.splices R.bl a b)[k]) := Lib.hid (fun k h h2 => by
    have := congrArg (fun l => l[k]?) hx
    simpa [h, h2] using this)
  obtain ⟨cs, hcs⟩ : ∃ cs, R.splices R.bl a b = cs := ⟨_, rfl⟩
  rw [hcs] at RT GS XK HXL
  have R3' := Lib.hid ((R3.out.below b3 (Nat.le_refl _)).more b3.size)
  clear SP own3 hx ch4 B2 lx hxl hcs HX R3 b3
  go_wp2_with fail
  go_loopw [5, 24] (fun v5 v24 wr => ∃ (k : Nat) (L : List R.G) (Al : Option Addr) (cl : Nat), k ≤ xs.length ∧ v24 = .int .i64 k ∧ v5 = .slice Al L.length cl ∧ L.length ≤ cl ∧ L.length ≤ 264 + R.glsum (cs.take k) ∧ Hid (R.applyAll R.bl R.sp L (cs.drop k) = some (R.trimEnd R.bl b)) ∧ Hid (Reads wr wr.heap.size 3 Al L.length (R.gcs L)) ∧ Hid (Below w3.heap.size w3 wr)) (fun _ v _ => xs.length - (intOf v).toNat)
  case atStart => exact ⟨0, R.trimEnd R.bl a, A3, c3, Nat.zero_le _, rfl, rfl, hc3, by omega, RT, R3', Lib.hid (Below.refl _ _)⟩
  case round =>
    clear R3' RT
    obtain ⟨k, L, Al, cl, hk, rfl, rfl, hcl, hLl, hap, hrd, hbl⟩ := hrel
    have hgk := R.glsum_le cs k
    have hgs := GS.out
    by_cases hlt : k < xs.length
    · obtain ⟨b4, o4, rfl, hb4, h4⟩ := CH4.out.at_ (by omega)
      have CK := h4 k hlt
      obtain ⟨Ag, cg, sg, rg, hcg⟩ := CH4.out.gl xs[k] (List.getElem_mem hlt)
      have hkc : k < cs.length := by rw [← HXL.out]; exact hlt
      have hxc := XK.out k hlt hkc
      obtain ⟨m, hm, hmr⟩ := R.applyAll_step hkc hap.out
      have hml := R.apply_len hm
      have hmx := R.apply_some (row := 7) hm
      have hgt := R.glsum_take hkc
      have hgk1 := R.glsum_le cs (k + 1)
      have HMR := Lib.hid hmr
      rw [← hxc] at hmx
      have hcx : xs[k].c.col = cs[k].col := by rw [hxc]; rfl
      have hgx : xs[k].c.gl.length = cs[k].gl.length := by rw [hxc]; rfl
      have hkd : xs[k].c.kind = 3 := by rw [hxc]; rfl
      have hrw : xs[k].c.row = 7 := by rw [hxc]; rfl
      obtain ⟨hml1, hml2, hml3, hml4⟩ := hml
      obtain ⟨k0, k1, k2, k3, k4, k5⟩ := CK
      have key : ∀ p : Addr, p.block < w3.heap.size → wr.cell? p = w3.cell? p := fun p hp => hbl.out.cell hp
      have z0 := (key ⟨b4, _, none⟩ hb4).trans k0
      have z1 := (key ⟨b4, _, none⟩ hb4).trans k1
      have z2 := (key ⟨b4, _, none⟩ hb4).trans k2
      have z3 := (key ⟨b4, _, none⟩ hb4).trans k3
      have z4 := (key ⟨b4, _, none⟩ hb4).trans k4
      have z5 := (key ⟨b4, _, none⟩ hb4).trans k5
      clear key k0 k1 k2 k3 k4 k5 h4
      have q1 : (0 : Int) ≤ (k : Int) := by omega
      have q2 : (k : Int) < (xs.length : Int) := by omega
      have AP := fun (W : World) (h : Below wr.heap.size wr W) => apply_any Al cl wr.heap.size L xs[k] Ag cg W sg (hrd.out.below h (Nat.le_refl _)) (((rg.below hbl.out (Nat.le_refl _)).below (h.mono hbl.out.size) (Nat.le_refl _)).more hbl.out.size) h.size (by omega) hcl (by omega) (by omega) (by omega)
      rw [hmx] at AP
      have AP := Lib.hid AP
      rw [sg] at z5
      simp only [R.Cs.cells] at AP
      rw [sg, hkd, hrw] at AP
      rw [hkd] at z0
      rw [hrw] at z1
      have hmL : m.length ≤ 264 + R.glsum (cs.take (k + 1)) := by omega
      clear sg rg hxc hm hmr hmx hcx hgx hkd hrw hml1 hml2 hml3 hml4 hgt hap hkc
      generalize xs[k].c.col = x2 at *
      generalize xs[k].c.count = x3 at *
      generalize xs[k].c.to = x4 at *
      generalize xs[k].c.gl.length = x5 at *
      have BA : Hid (Below wr.heap.size wr (wr.alloc (.cells #[.int .i64 3, .int .i64 7, .int .i64 x2, .int .i64 x3, .int .i64 x4, .slice Ag x5 cg] 29))) := Lib.hid ((Below.refl _ _).alloc (Nat.le_refl _) _)
      have AP' := Lib.hid (AP.out _ BA.out)
      clear AP
      go_wp2_with fail
      refine AP'.out.mono ?_
      rintro e w6 ⟨v6, rfl, own6, b6⟩
      obtain ⟨A7, c7, rfl, r7, hc7⟩ := own_reads_cap own6
      have R7 := Lib.hid r7
      have B6 := Lib.hid (hbl.out.trans ((BA.out.trans (b6.mono BA.out.size)).mono hbl.out.size))
      clear AP' own6 r7 b6 BA
      go_wp2_with fail
      exact ⟨⟨k + 1, m, A7, c7, hlt, by go_num, rfl, hc7, hmL, HMR, R7, B6⟩, by simp [intOf]; omega⟩
    · obtain rfl : k = xs.length := by omega
      have q2 : decide (xs.length < xs.length) = false := decide_eq_false (by omega)
      have hL : L = R.trimEnd R.bl b := by
        have := hap.out
        rw [List.drop_of_length_le (by rw [HXL.out]; exact Nat.le_refl _)] at this
        simpa [R.applyAll] using this
      subst hL
      have BW := Lib.hid (B3.out.trans (hbl.out.mono B3.out.size))
      have T1 := Lib.hid (trim_any A1 c1 w.heap.size a wr (HA.out.below BW.out (Nat.le_refl _)) BW.out.size (by omega) hca)
      have HRD := Lib.hid hrd.out
      clear hap hbl hrd hLl hgk hgs CH4 XK GS
      go_wp2_with fail
      refine T1.out.mono ?_
      rintro e w5 ⟨v5, rfl, own5, b5⟩
      obtain ⟨A5, c5, rfl, r5, hc5⟩ := own_reads_cap own5
      have R5 := Lib.hid r5
      have B5 := Lib.hid (BW.out.trans (b5.mono BW.out.size))
      have RP := Lib.hid (replace_any A1 A2 c1 c2 w.heap.size 7 a b w5 (HA.out.below B5.out (Nat.le_refl _)) (HB.out.below B5.out (Nat.le_refl _)) B5.out.size (by omega) (by omega) hca hcb)
      have RL5 := Lib.hid ((HRD.out.below b5 (Nat.le_refl _)).more b5.size)
      clear T1 own5 r5 b5 BW HRD
      go_wp2_with fail
      refine RP.out.mono ?_
      rintro e w6 ⟨v6, rfl, own6, b6⟩
      obtain ⟨A6, c6, rfl, r6, hc6⟩ := own_reads_cap own6
      have AP := apply_any A5 c5 w6.heap.size (R.trimEnd R.bl a) ⟨⟨3, 7, 0, ((R.trimEnd R.bl a).length : Nat), 0, R.trimEnd R.bl b⟩, .slice A6 (R.trimEnd R.bl b).length c6⟩ A6 c6 w6 rfl ((R5.out.below b6 (Nat.le_refl _)).more b6.size) r6 (Nat.le_refl _) (by omega) hc5 (by simp only; omega) (by simp only; omega) (by simp only; omega)
      have eAP : R.applyX (R.trimEnd R.bl a) ⟨3, 7, 0, ((R.trimEnd R.bl a).length : Nat), 0, R.trimEnd R.bl b⟩ = (R.trimEnd R.bl b, 0) := R.apply_some (row := 7) (R.applyAll_repl R.bl R.sp a b)
      dsimp only at AP
      rw [eAP] at AP
      clear eAP
      have AP := Lib.hid AP
      simp only [R.Cs.cells] at AP ⊢
      have B6 := Lib.hid (B5.out.trans (b6.mono B5.out.size))
      have RL6 := Lib.hid ((RL5.out.below b6 (Nat.le_refl _)).more b6.size)
      clear RP own6 r6 b6 R5 RL5 B5
      go_wp2_with fail
      refine AP.out.mono ?_
      rintro e w7 ⟨v7, rfl, own7, b7⟩
      obtain ⟨A7, c7, rfl, r7, hc7⟩ := own_reads_cap own7
      have B7 := Lib.hid (B6.out.trans (b7.mono B6.out.size))
      have RL7 := Lib.hid ((RL6.out.below b7 (Nat.le_refl _)).more b7.size)
      have R7 := Lib.hid r7
      have T2 := Lib.hid (trim_any A2 c2 w.heap.size b w7 (HB.out.below B7.out (Nat.le_refl _)) B7.out.size (by omega) hcb)
      clear AP own7 r7 b7 RL6 B6
      go_wp2_with fail
      refine T2.out.mono ?_
      rintro e w8 ⟨v8, rfl, own8, b8⟩
      obtain ⟨A8, c8, rfl, r8, _⟩ := own_reads_cap own8
      have SG := sameglyphs_any Al A8 cl c8 w8.heap.size _ _ w8 ((RL7.out.below b8 (Nat.le_refl _)).more b8.size) r8 (by omega) (by omega)
      rw [decide_eq_true rfl] at SG
      have SG := Lib.hid SG
      have B8 := Lib.hid (B7.out.trans (b8.mono B7.out.size))
      have R78 := Lib.hid ((R7.out.below b8 (Nat.le_refl _)).more b8.size)
      have T3 := Lib.hid (fun n => trim_any A2 c2 w.heap.size b (w8.drewN n) (HB.out.below (below_drewN B8.out n) (Nat.le_refl _)) (below_drewN B8.out n).size (by omega) hcb)
      clear T2 own8 r8 b8 RL7 R7 B7
      go_wp2_with fail
      refine SG.out.mono ?_
      rintro e w9 ⟨rfl, n, rfl⟩
      have T3' := Lib.hid (T3.out n)
      clear SG T3
      go_wp2_with fail
      refine T3'.out.mono ?_
      rintro e w10 ⟨v10, rfl, own10, b10⟩
      obtain ⟨A10, c10, rfl, r10, _⟩ := own_reads_cap own10
      have SG := sameglyphs_any A7 A10 c7 c10 w10.heap.size _ _ w10 (((R78.out.drewN n).below b10 (Nat.le_refl _)).more b10.size) r10 (by omega) (by omega)
      rw [decide_eq_true rfl] at SG
      have SG := Lib.hid SG
      have B10 := Lib.hid ((below_drewN B8.out n).trans (b10.mono B8.out.size))
      clear T3' own10 r10 b10 R78 B8
      go_wp2_with fail
      refine SG.out.mono ?_
      rintro e w11 ⟨rfl, n2, rfl⟩
      go_wp2_with fail
      refine (awake_any _).mono ?_
      rintro e w12 ⟨rfl, b12⟩
      go_wp2_with fail
      go_ret
      exact ⟨rfl, (below_drewN B10.out n2).trans (b12.mono (below_drewN B10.out n2).size)⟩
end Go.Proofs.Yteakiielcmgkeaa
