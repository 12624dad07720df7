/-
  The statements of layer 17: RowdiffPrefix. By an AI agent.
-/
import Derived.Test.YteakiielcmgkeaaLwAp
namespace Go.Proofs.Yteakiielcmgkeaa
set_option linter.unusedSimpArgs false
open Go.RowKit Go.Deep
set_option linter.unusedVariables false

namespace R
theorem Cx.of_inj {row : Int} {c d : Ch G} (h : Cx.of row c = Cx.of row d) : c = d := by
  obtain ⟨a1, a2, a3⟩ := c
  obtain ⟨b1, b2, b3⟩ := d
  simp only [Cx.of, Cx.mk.injEq] at h
  obtain ⟨_, _, rfl, rfl, _, rfl⟩ := h
  rfl
theorem map_of_inj {row : Int} : ∀ {l m : List (Ch G)}, l.map (Cx.of row) = m.map (Cx.of row) → l = m
  | [], [], _ => rfl
  | [], _ :: _, h => by cases h
  | _ :: _, [], h => by cases h
  | c :: l, d :: m, h => by
    simp only [List.map_cons, List.cons.injEq] at h
    rw [Cx.of_inj h.1, map_of_inj h.2]
theorem sp_col (a b : List G) : ∀ c ∈ splices bl a b, 0 ≤ c.col ∧ c.col ≤ ((trimEnd bl b).length : Int) := by
  intro c hc
  unfold splices at hc
  split at hc
  · simp only [List.mem_singleton] at hc
    subst hc
    simp [repl]
  · have := ofEd_ins (trimEnd bl a) (trimEnd bl b) (E.script (trimEnd bl a) (trimEnd bl b)) 0 [] (trimEnd bl b) 0 (Nat.zero_le _) (by simp) (E.app_script _ _) rfl c hc
    omega
/-- A change further to the right. -/
def Cs.sh (k : Int) (x : Cs) : Cs := ⟨{ x.c with col := x.c.col + k }, x.sl⟩
theorem ccs_snoc (l : List Cs) (x : Cs) : ccs (l ++ [x]) = ccs l ++ x.cells := by simp [ccs]
end R
set_option maxRecDepth 100000 in
set_option maxHeartbeats 1500000 in
theorem prefixlaw_any (A0 : Option Addr) (c0 : Nat) (p : List R.G) (A1 : Option Addr) (c1 : Nat) (a : List R.G) (A2 : Option Addr) (c2 : Nat) (b : List R.G) (w : World) (hp : Reads w w.heap.size 3 A0 p.length (R.gcs p)) (hlp : p.length ≤ maxLen) (hcp : p.length ≤ c0) (ha : Reads w w.heap.size 3 A1 a.length (R.gcs a)) (hla : a.length ≤ maxLen) (hca : a.length ≤ c1) (hb : Reads w w.heap.size 3 A2 b.length (R.gcs b)) (hlb : b.length ≤ maxLen) (hcb : b.length ≤ c2) :
    Calls Try.prog 6 #[.slice A0 p.length c0, .slice A1 a.length c1, .slice A2 b.length c2] w fun e w' => e = .returned (.bool true) ∧ Below w.heap.size w w' := by
  have FN := Lib.hid (fine3_any A0 A1 A2 c0 c1 c2 p.length a.length b.length w hlp hla hlb)
  have b0 : Below w.heap.size w (w.alloc (.cells #[.slice A0 p.length c0, .slice A1 a.length c1, .slice A2 b.length c2] 22)) := (Below.refl _ _).alloc (Nat.le_refl _) _
  have B0 := Lib.hid b0
  have HP := Lib.hid hp
  have HA := Lib.hid ha
  have HB := Lib.hid hb
  clear hp ha hb hlp hla hlb
  cases hf : R.fine [p.length, a.length, b.length] with
  | false =>
    rw [hf] at FN
    clear hf b0
    go_enter Try.func6, Try.ntmps6
    go_wp2_with fail
    refine FN.out.mono ?_
    rintro e w1 ⟨rfl, rfl⟩
    go_wp2_with fail
    refine (awake_any _).mono ?_
    rintro e w5 ⟨rfl, b5⟩
    go_wp2_with fail
    go_ret
    exact ⟨rfl, B0.out.trans (b5.mono B0.out.size)⟩
  | true =>
  rw [hf] at FN
  obtain ⟨lp, la, lb⟩ := R.fine3 hf
  obtain ⟨i0, hi0, hz0, hz1, hz2⟩ := info_parts infoG
  obtain ⟨iC, hiC, hC0, hC1, hC2⟩ := info_parts infoC
  clear hf b0
  go_enter Try.func6, Try.ntmps6
  go_wp2_with fail
  refine FN.out.mono ?_
  rintro e w1 ⟨rfl, rfl⟩
  obtain ⟨W1, hW1⟩ : ∃ W, w.alloc (.cells #[.slice A0 p.length c0, .slice A1 a.length c1, .slice A2 b.length c2] 22) = W := ⟨_, rfl⟩
  rw [hW1] at B0 ⊢
  clear hW1 FN
  have ta := trim_len a
  have tb := trim_len b
  have SP := Lib.hid (splices_any A1 A2 c1 c2 w.heap.size 4 a b W1 (HA.out.below B0.out (Nat.le_refl _)) (HB.out.below B0.out (Nat.le_refl _)) B0.out.size (by omega) (by omega) hca hcb)
  go_wp2_with fail
  refine SP.out.mono ?_
  rintro e w3 ⟨v3, xs, rfl, own3, hx, b3⟩
  obtain ⟨A4, c4, rfl, ch4, _⟩ := own3.chs
  have lx := R.sp_low (by omega) (by omega) hx
  have hxl : xs.length = (R.splices R.bl a b).length := by have := congrArg List.length hx; simpa using this
  have HX := Lib.hid hx
  have HXL := Lib.hid hxl
  have CH4 := Lib.hid ch4
  have B3 := Lib.hid (B0.out.trans (b3.mono B0.out.size))
  have hxn := lx.1
  have LX := Lib.hid lx
  have T1 := Lib.hid (trim_any A1 c1 w.heap.size a w3 (HA.out.below B3.out (Nat.le_refl _)) B3.out.size (by omega) hca)
  clear SP own3 hx ch4 lx hxl b3 B0
  go_wp2_with fail
  refine T1.out.mono ?_
  rintro e w4 ⟨v4, rfl, own4, b4⟩
  obtain ⟨A5, c5, rfl, _, _⟩ := own_reads_cap own4
  have B4 := Lib.hid (B3.out.trans (b4.mono B3.out.size))
  have CH44 := Lib.hid ((CH4.out.below b4 (Nat.le_refl _)).more b4.size)
  clear T1 own4 b4 CH4 B3
  by_cases hta : (R.trimEnd R.bl a).length = 0
  · have hq1 : (((R.trimEnd R.bl a).length : Int) == 0) = true := by rw [hta]; rfl
    go_wp2_with fail
    refine (awake_any _).mono ?_
    rintro e w12 ⟨rfl, b12⟩
    go_wp2_with fail
    go_ret
    exact ⟨rfl, B4.out.trans (b12.mono B4.out.size)⟩
  · have hq1 : (((R.trimEnd R.bl a).length : Int) == 0) = false := by rw [beq_eq_false_iff_ne]; omega
    have T2 := Lib.hid (trim_any A2 c2 w.heap.size b w4 (HB.out.below B4.out (Nat.le_refl _)) B4.out.size (by omega) hcb)
    go_wp2_with fail
    refine T2.out.mono ?_
    rintro e w5 ⟨v5, rfl, own5, b5⟩
    obtain ⟨A6, c6, rfl, _, _⟩ := own_reads_cap own5
    have B5 := Lib.hid (B4.out.trans (b5.mono B4.out.size))
    have CH5 := Lib.hid ((CH44.out.below b5 (Nat.le_refl _)).more b5.size)
    clear T2 own5 b5 CH44 B4
    by_cases htb : (R.trimEnd R.bl b).length = 0
    · have hq2 : (((R.trimEnd R.bl b).length : Int) == 0) = true := by rw [htb]; rfl
      go_wp2_with fail
      refine (awake_any _).mono ?_
      rintro e w12 ⟨rfl, b12⟩
      go_wp2_with fail
      go_ret
      exact ⟨rfl, B5.out.trans (b12.mono B5.out.size)⟩
    · have hq2 : (((R.trimEnd R.bl b).length : Int) == 0) = false := by rw [beq_eq_false_iff_ne]; omega
      have RP := Lib.hid (replace_any A1 A2 c1 c2 w.heap.size 4 a b w5 (HA.out.below B5.out (Nat.le_refl _)) (HB.out.below B5.out (Nat.le_refl _)) B5.out.size (by omega) (by omega) hca hcb)
      go_wp2_with fail
      refine RP.out.mono ?_
      rintro e w6 ⟨v6, rfl, own6, b6⟩
      obtain ⟨A8, c8, rfl, r8, hc8⟩ := own_reads_cap own6
      have ONE := R.chs_one w6 ⟨⟨3, 4, 0, ((R.trimEnd R.bl a).length : Nat), 0, R.trimEnd R.bl b⟩, .slice A8 (R.trimEnd R.bl b).length c8⟩ A8 c8 rfl r8 hc8
      have BA : Below w6.heap.size w6 (w6.alloc (.cells (R.Cs.cells ⟨⟨3, 4, 0, ((R.trimEnd R.bl a).length : Nat), 0, R.trimEnd R.bl b⟩, .slice A8 (R.trimEnd R.bl b).length c8⟩).toArray 29)) := (Below.refl _ _).alloc (Nat.le_refl _) _
      have B7 := Lib.hid (B5.out.trans ((b6.trans (BA.mono b6.size)).mono B5.out.size))
      have CH7 := Lib.hid ((CH5.out.below (b6.trans (BA.mono b6.size)) (Nat.le_refl _)).more (Nat.le_trans b6.size BA.size))
      have SM := same_any A4 _ c4 1 _ xs _ _ CH7.out ONE (by omega) (by simp) LX.out.2 (R.one_low (by simp only; omega))
      simp only [R.Cs.cells] at SM B7 CH7 ⊢
      replace SM := Lib.hid SM
      clear RP own6 b6 r8 ONE BA CH5 B5
      have HEQ : Hid ((xs.map (·.c) = [(⟨⟨3, 4, 0, ((R.trimEnd R.bl a).length : Nat), 0, R.trimEnd R.bl b⟩, .slice A8 (R.trimEnd R.bl b).length c8⟩ : R.Cs)].map (·.c)) ↔ R.splices R.bl a b = [R.repl R.bl a b]) := Lib.hid (by
        rw [HX.out]
        constructor
        · intro h
          exact R.map_of_inj (row := 4) (m := [R.repl R.bl a b]) h
        · intro h
          rw [h]; rfl)
      obtain ⟨W7, hW7⟩ : ∃ W, w6.alloc (.cells #[.int .i64 3, .int .i64 4, .int .i64 0, .int .i64 ((R.trimEnd R.bl a).length : Nat), .int .i64 0, .slice A8 (R.trimEnd R.bl b).length c8] 29) = W := ⟨_, rfl⟩
      by_cases hre : R.splices R.bl a b = [R.repl R.bl a b]
      · have SM2 := SM.out
        rw [decide_eq_true (HEQ.out.2 hre)] at SM2
        replace SM2 := Lib.hid SM2
        clear SM HEQ hre hW7
        go_wp2_with fail
        refine SM2.out.mono ?_
        rintro e w8 ⟨rfl, n, rfl⟩
        go_wp2_with fail
        refine (awake_any _).mono ?_
        rintro e w12 ⟨rfl, b12⟩
        go_wp2_with fail
        go_ret
        exact ⟨rfl, (below_drewN B7.out n).trans (b12.mono (below_drewN B7.out n).size)⟩
      · have SM2 := SM.out
        rw [decide_eq_false (fun h => hre (HEQ.out.1 h))] at SM2
        rw [hW7] at SM2 B7 CH7
        have LAW := Lib.hid (R.prefix_law R.bl p a b (fun h => hta (by rw [h]; rfl)) (fun h => htb (by rw [h]; rfl)) hre (by omega) (by omega))
        have SCOL := Lib.hid (R.sp_col a b)
        have XK : Hid (∀ k (h : k < xs.length) (h2 : k < (R.splices R.bl a b).length), xs[k].c = R.Cx.of 4 (R.splices R.bl a b)[k]) := Lib.hid (fun k h h2 => by
          have := congrArg (fun l => l[k]?) HX.out
          simpa [h, h2] using this)
        replace SM2 := Lib.hid SM2
        clear SM HEQ hre hta htb
        go_wp2_with fail
        clear hW7
        refine SM2.out.mono ?_
        rintro e w8 ⟨rfl, n, rfl⟩
        have B8 := Lib.hid (below_drewN B7.out n)
        have CH8 := Lib.hid (CH7.out.drewN n)
        obtain ⟨W8, hW8⟩ : ∃ W, W7.drewN n = W := ⟨_, rfl⟩
        have hsz8 : W8.heap.size = W7.heap.size := by rw [← hW8]; rfl
        rw [hW8] at B8 CH8 ⊢
        rw [← hsz8] at CH8
        have OW0 := Lib.hid (World.ownsRow_lit (base := W8.heap.size) (e := 29) (size := 6) W8 #[] 0 (Nat.le_refl _) (by decide) rfl)
        have BW0 : Hid (Below W8.heap.size W8 (W8.alloc (.cells #[] 29))) := Lib.hid ((Below.refl _ _).alloc (Nat.le_refl _) _)
        clear SM2 hW8 hsz8 B7 CH7
        go_wp2_with fail
        go_loopw [8, 45] (fun v8 v45 wr => ∃ k : Nat, k ≤ xs.length ∧ v45 = .int .i64 k ∧ Hid (wr.ownsRow W8.heap.size 29 6 v8 k (R.ccs ((xs.take k).map (R.Cs.sh p.length)))) ∧ Hid (Below W8.heap.size W8 wr)) (fun _ v _ => xs.length - (intOf v).toNat)
        case atStart => exact ⟨0, Nat.zero_le _, rfl, Lib.hid (by simpa [R.ccs] using OW0.out), BW0⟩
        case round =>
          clear OW0 BW0
          obtain ⟨k, hk, rfl, hown, hbl⟩ := hrel
          obtain ⟨vo, hvo⟩ : ∃ v, u8 = v := ⟨_, rfl⟩
          rw [hvo] at hown ⊢
          clear hvo
          by_cases hlt : k < xs.length
          · obtain ⟨b4, o4, rfl, hb4, h4⟩ := CH8.out.at_ (by omega)
            obtain ⟨k0, k1, k2, k3, k4, k5⟩ := h4 k hlt
            obtain ⟨Ag, cg, sg, _, _⟩ := CH8.out.gl xs[k] (List.getElem_mem hlt)
            have hkc : k < (R.splices R.bl a b).length := by rw [← HXL.out]; exact hlt
            have hxc : xs[k].c.col = (R.splices R.bl a b)[k].col := by rw [XK.out k hlt hkc]; rfl
            have hcb := SCOL.out _ (List.getElem_mem hkc)
            rw [← hxc] at hcb
            have HS : Hid (R.ccs ((xs.take (k + 1)).map (R.Cs.sh p.length)) = R.ccs ((xs.take k).map (R.Cs.sh p.length)) ++ [.int .i64 xs[k].c.kind, .int .i64 xs[k].c.row, .int .i64 (xs[k].c.col + (p.length : Int)), .int .i64 xs[k].c.count, .int .i64 xs[k].c.to, .slice Ag xs[k].c.gl.length cg]) := Lib.hid (by
              rw [List.take_succ_eq_append_getElem hlt, List.map_append, List.map_cons, List.map_nil, R.ccs_snoc]
              simp only [R.Cs.cells, R.Cs.sh, sg])
            rw [sg] at k5
            have key : ∀ p : Addr, p.block < W8.heap.size → wr.cell? p = W8.cell? p := fun p hp => hbl.out.cell hp
            have z0 := (key ⟨b4, _, none⟩ hb4).trans k0
            have z1 := (key ⟨b4, _, none⟩ hb4).trans k1
            have z2 := (key ⟨b4, _, none⟩ hb4).trans k2
            have z3 := (key ⟨b4, _, none⟩ hb4).trans k3
            have z4 := (key ⟨b4, _, none⟩ hb4).trans k4
            have z5 := (key ⟨b4, _, none⟩ hb4).trans k5
            have q1 : (0 : Int) ≤ (k : Int) := by omega
            have q2 : (k : Int) < (xs.length : Int) := by omega
            clear key k0 k1 k2 k3 k4 k5 h4 sg hxc hkc
            generalize xs[k].c.kind = y0 at *
            generalize xs[k].c.row = y1 at *
            generalize xs[k].c.col = y2 at *
            generalize xs[k].c.count = y3 at *
            generalize xs[k].c.to = y4 at *
            generalize xs[k].c.gl.length = y5 at *
            obtain ⟨hc1, hc2⟩ := hcb
            go_wp2_with (at_builtin; refine wpList_append_any _ rfl (.tmp 55) (.tmp 57) 26 rfl W8.heap.size 29 iC _ 6 64 Try.underlying26 hiC hC0 hC1 hC2 rfl (by decide) vo k _ rfl ((hown.out.alloc _).alloc _) _ (some ⟨wr.heap.size + 1, 0, none⟩) 1 1 [.int .i64 y0, .int .i64 y1, .int .i64 (y2 + (p.length : Int)), .int .i64 y3, .int .i64 y4, .slice Ag y5 cg] rfl (reads_block_at (wr.alloc (.cells #[.int .i64 y0, .int .i64 y1, .int .i64 (y2 + (p.length : Int)), .int .i64 y3, .int .i64 y4, .slice Ag y5 cg] 29)) [.int .i64 y0, .int .i64 y1, .int .i64 (y2 + (p.length : Int)), .int .i64 y3, .int .i64 y4, .slice Ag y5 cg] 29 6 1 rfl (by simp)) (by simp [Value.oneCell']) (by simp only [maxLen]; omega) (by omega) (Nat.le_trans hbl.out.size (by simp; omega)) ?_; intro v7 W9 hown7 hg7 hn7)
            exact ⟨⟨k + 1, hlt, by go_num, Lib.hid (by rw [HS.out]; exact hown7), Lib.hid (((hbl.out.alloc hbl.out.size _).alloc (Nat.le_trans hbl.out.size (by simp)) _).grown hg7 (Nat.le_trans hbl.out.size (by simp; omega)) (fun g e => (hown.out.lt g e).1))⟩, by simp [intOf]; omega⟩
          · obtain rfl : k = xs.length := by omega
            have q2 : decide (xs.length < xs.length) = false := decide_eq_false (by omega)
            have hall : (xs.take xs.length).map (R.Cs.sh p.length) = xs.map (R.Cs.sh p.length) := by rw [List.take_length]
            rw [hall] at hown
            obtain ⟨Aw, cw, rfl, rw0, _⟩ := own_reads_cap hown.out
            have hwl : (xs.map (R.Cs.sh p.length)).length = xs.length := List.length_map _
            have CHW : R.Chs wr wr.heap.size Aw (xs.map (R.Cs.sh p.length)) := ⟨by rw [hwl]; exact rw0, fun y hy => by
              obtain ⟨x, hxm, rfl⟩ := List.mem_map.1 hy
              obtain ⟨A', c', h1, h2, h3⟩ := CH8.out.gl x hxm
              exact ⟨A', c', h1, (h2.below hbl.out (Nat.le_refl _)).more hbl.out.size, h3⟩⟩
            replace CHW := Lib.hid CHW
            have BW := Lib.hid (B8.out.trans (hbl.out.mono B8.out.size))
            have XMAP : Hid ((xs.map (R.Cs.sh p.length)).map (·.c) = (R.splices R.bl (p ++ a) (p ++ b)).map (R.Cx.of 4)) := Lib.hid (by
              rw [LAW.out, List.map_map, List.map_map]
              have : xs.map ((·.c) ∘ R.Cs.sh p.length) = (xs.map (·.c)).map (fun c => { c with col := c.col + (p.length : Int) }) := by rw [List.map_map]; rfl
              rw [this, HX.out, List.map_map]
              rfl)
            have hpa : (p ++ a).length = p.length + a.length := List.length_append
            have hpb : (p ++ b).length = p.length + b.length := List.length_append
            have WLOW := Lib.hid (R.sp_low (a := p ++ a) (b := p ++ b) (by rw [hpa]; omega) (by rw [hpb]; omega) XMAP.out).2
            have own0 := World.ownsRow_lit (base := wr.heap.size) (e := 33) (size := 3) wr #[] 0 (Nat.le_refl _) (by decide) rfl
            have hb0 : Below wr.heap.size wr (wr.alloc (.cells #[] 33)) := (Below.refl _ _).alloc (Nat.le_refl _) _
            obtain ⟨X, hX⟩ : ∃ X, X = p ++ a := ⟨_, rfl⟩
            obtain ⟨Y, hY⟩ : ∃ Y, Y = p ++ b := ⟨_, rfl⟩
            rw [← hX] at hpa XMAP
            rw [← hY] at hpb XMAP
            have HPX := Lib.hid hX
            have HPY := Lib.hid hY
            have HPA := Lib.hid hpa
            have HPB := Lib.hid hpb
            have hxl2 : X.length ≤ 40 := by omega
            have hyl2 : Y.length ≤ 40 := by omega
            have HWL := Lib.hid hwl
            have RPr : ∀ W, Below wr.heap.size wr W → Reads W w.heap.size 3 A0 p.length (R.gcs p) := fun W h => HP.out.below (BW.out.trans (h.mono BW.out.size)) (Nat.le_refl _)
            have RAr : ∀ W, Below wr.heap.size wr W → Reads W w.heap.size 3 A1 a.length (R.gcs a) := fun W h => HA.out.below (BW.out.trans (h.mono BW.out.size)) (Nat.le_refl _)
            have RBr : ∀ W, Below wr.heap.size wr W → Reads W w.heap.size 3 A2 b.length (R.gcs b) := fun W h => HB.out.below (BW.out.trans (h.mono BW.out.size)) (Nat.le_refl _)
            replace RPr := Lib.hid RPr
            replace RAr := Lib.hid RAr
            replace RBr := Lib.hid RBr
            clear hpa hpb hwl hall rw0 hown hbl HX LAW CH8 XK SCOL B8 hX hY
            go_wp2_with (first
              | (at_builtin; refine wpList_append_any _ rfl (.tmp 60) (.tmp 61) 22 rfl wr.heap.size 33 i0 _ 3 32 Try.underlying22 hi0 hz0 hz1 hz2 rfl (by decide) (.slice (some ⟨wr.heap.size, 0, none⟩) 0 0) 0 [] rfl own0 _ A0 p.length c0 (R.gcs p) rfl (RPr.out _ hb0) (R.gcs_one _) (by simp only [maxLen]; omega) (by omega) hb0.size ?_; intro v4 W4 hown4 hg4 hn4; (have OWN4 : Hid (W4.ownsRow wr.heap.size 33 3 v4 p.length (R.gcs p)) := Lib.hid (by simpa using hown4)); (have BB4 := Lib.hid (hb0.grown hg4 hb0.size (own_below own0 (Nat.le_refl _)))); (clear own0 hb0 hown4 hg4 hn4))
              | (at_builtin; refine wpList_append_any _ rfl (.tmp 62) (.tmp 63) 22 rfl wr.heap.size 33 i0 _ 3 32 Try.underlying22 hi0 hz0 hz1 hz2 rfl (by decide) v4 p.length _ rfl OWN4.out _ A1 a.length c1 (R.gcs a) rfl (RAr.out _ BB4.out) (R.gcs_one _) (by simp only [maxLen]; omega) (by omega) BB4.out.size ?_; intro v5 W5 hown5 hg5 hn5; (have BB5 := Lib.hid (BB4.out.grown hg5 BB4.out.size (fun b e => (OWN4.out.lt b e).1))); (rw [← HPA.out, ← R.gcs_app, ← HPX.out] at hown5); (obtain ⟨A9, c9, rfl, r9, hc9⟩ := own_reads_cap hown5); (have R9 := Lib.hid r9); (have own6 := World.ownsRow_lit (base := W5.heap.size) (e := 33) (size := 3) W5 #[] 0 (Nat.le_refl _) (by decide) rfl); (have hb6 : Below W5.heap.size W5 (W5.alloc (.cells #[] 33)) := (Below.refl _ _).alloc (Nat.le_refl _) _); (clear OWN4 BB4 hown5 hg5 hn5 r9))
              | (at_builtin; refine wpList_append_any _ rfl (.tmp 65) (.tmp 66) 22 rfl W5.heap.size 33 i0 _ 3 32 Try.underlying22 hi0 hz0 hz1 hz2 rfl (by decide) (.slice (some ⟨W5.heap.size, 0, none⟩) 0 0) 0 [] rfl own6 _ A0 p.length c0 (R.gcs p) rfl (RPr.out _ (BB5.out.trans (hb6.mono BB5.out.size))) (R.gcs_one _) (by simp only [maxLen]; omega) (by omega) hb6.size ?_; intro v7 W7' hown7 hg7 hn7; (have OWN7 : Hid (W7'.ownsRow W5.heap.size 33 3 v7 p.length (R.gcs p)) := Lib.hid (by simpa using hown7)); (have BB7 := Lib.hid (hb6.grown hg7 hb6.size (own_below own6 (Nat.le_refl _)))); (clear own6 hb6 hown7 hg7 hn7))
              | (at_builtin; refine wpList_append_any _ rfl (.tmp 67) (.tmp 68) 22 rfl W5.heap.size 33 i0 _ 3 32 Try.underlying22 hi0 hz0 hz1 hz2 rfl (by decide) v7 p.length _ rfl OWN7.out _ A2 b.length c2 (R.gcs b) rfl (RBr.out _ (BB5.out.trans (BB7.out.mono BB5.out.size))) (R.gcs_one _) (by simp only [maxLen]; omega) (by omega) BB7.out.size ?_; intro v8 W8' hown8 hg8 hn8; (have BB8 := Lib.hid (BB7.out.grown hg8 BB7.out.size (fun b e => (OWN7.out.lt b e).1))); (rw [← HPB.out, ← R.gcs_app, ← HPY.out] at hown8); (obtain ⟨A10, c10, rfl, r10, hc10⟩ := own_reads_cap hown8); (have R10 := Lib.hid r10); (clear OWN7 BB7 hown8 hg8 hn8 r10)))
            have SP2 := Lib.hid (splices_any A9 A10 c9 c10 W8'.heap.size 4 X Y W8' ((R9.out.below BB8.out (Nat.le_refl _)).more BB8.out.size) R10.out (Nat.le_refl _) (by omega) (by omega) hc9 hc10)
            have BE := Lib.hid (BW.out.trans ((BB5.out.trans (BB8.out.mono BB5.out.size)).mono BW.out.size))
            have CHE := Lib.hid ((CHW.out.below (BB5.out.trans (BB8.out.mono BB5.out.size)) (Nat.le_refl _)).more (Nat.le_trans BB5.out.size BB8.out.size))
            clear R9 R10 BB5 BB8 BW CHW RPr RAr RBr
            refine SP2.out.mono ?_
            rintro e w11 ⟨v11, zs, rfl, own11, hz, b11⟩
            obtain ⟨A11, c11, rfl, ch11, _⟩ := own11.chs
            have lz := R.sp_low (by omega) (by omega) hz
            have SM := same_any A11 Aw c11 cw w11.heap.size zs (xs.map (R.Cs.sh p.length)) w11 ch11 ((CHE.out.below b11 (Nat.le_refl _)).more b11.size) (by omega) (by rw [HWL.out]; omega) lz.2 WLOW.out
            rw [decide_eq_true (by rw [hz, XMAP.out]), HWL.out] at SM
            replace SM := Lib.hid SM
            have B11 := Lib.hid (BE.out.trans (b11.mono BE.out.size))
            clear SP2 own11 hz ch11 lz b11 BE CHE
            go_wp2_with fail
            refine SM.out.mono ?_
            rintro e w12 ⟨rfl, q, rfl⟩
            go_wp2_with fail
            refine (awake_any _).mono ?_
            rintro e w13 ⟨rfl, b13⟩
            go_wp2_with fail
            go_ret
            exact ⟨rfl, (below_drewN B11.out q).trans (b13.mono (below_drewN B11.out q).size)⟩
end Go.Proofs.Yteakiielcmgkeaa
