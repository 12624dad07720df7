/-
  The statements of layer 17: RowdiffLeast. By an AI agent.
-/
import Derived.Test.YteakiielcmgkeaaLwAp
import Derived.Test.YteakiielcmgkeaaApx
namespace Go.Proofs.Yteakiielcmgkeaa
open Go.RowKit Go.Deep
set_option linter.unusedVariables false

theorem R.sp_bd {a b : List R.G} (la : a.length ≤ 100) (lb : b.length ≤ 100) : (R.splices R.bl a b).length ≤ 200 ∧ ∀ c ∈ R.splices R.bl a b, 0 ≤ c.count ∧ c.count ≤ 200 ∧ c.gl.length ≤ 200 := by
  have ta := trim_len a
  have tb := trim_len b
  have LOW := script_lowG (a := R.trimEnd R.bl a) (b := R.trimEnd R.bl b) (by omega) (by omega)
  unfold R.splices
  split
  · refine ⟨by simp, fun c hc => ?_⟩
    simp only [List.mem_singleton] at hc
    subst hc
    simp only [R.repl]
    omega
  · refine ⟨by unfold R.outs; rw [R.ofEd_length]; exact LOW.1, ?_⟩
    have key : ∀ (l : List (E.Ed R.G)) (m : Int), (∀ x ∈ l, 0 ≤ x.at_ ∧ 0 ≤ x.del ∧ x.del ≤ 200 ∧ x.ins.length ≤ 200) → ∀ c ∈ R.ofEd m l, 0 ≤ c.count ∧ c.count ≤ 200 ∧ c.gl.length ≤ 200 := by
      intro l
      induction l with
      | nil => intro m _ c hc; simp [R.ofEd] at hc
      | cons e l ih =>
        intro m hb c hc
        simp only [R.ofEd, List.mem_cons] at hc
        rcases hc with rfl | hc
        · exact (hb e (by simp)).2
        · exact ih _ (fun x hx => hb x (by simp [hx])) c hc
    exact key _ 0 LOW.2
theorem R.sum_take {l : List (R.Ch R.G)} {k : Nat} (h : k < l.length) : R.sum (l.take (k + 1)) = R.sum (l.take k) + (l[k].count + (l[k].gl.length : Int)) := by
  unfold R.sum
  rw [List.take_succ_eq_append_getElem h, List.map_append, List.sum_append]
  simp only [List.map_cons, List.map_nil, List.sum_cons, List.sum_nil, Int.add_zero]
theorem R.sum_bd {l : List (R.Ch R.G)} (h : ∀ c ∈ l, 0 ≤ c.count ∧ c.count ≤ 200 ∧ c.gl.length ≤ 200) (k : Nat) : 0 ≤ R.sum (l.take k) ∧ R.sum (l.take k) ≤ (k : Int) * 400 := by
  induction k with
  | zero => simp [R.sum]
  | succ k ih =>
    by_cases hk : k < l.length
    · have := h _ (List.getElem_mem hk)
      rw [R.sum_take hk]
      omega
    · rw [List.take_of_length_le (by omega)]
      rw [List.take_of_length_le (by omega)] at ih
      omega
set_option linter.unusedSimpArgs false
set_option maxRecDepth 100000 in
set_option maxHeartbeats 16000000 in
theorem leastlaw_any (A1 : Option Addr) (c1 : Nat) (a : List R.G) (A2 : Option Addr) (c2 : Nat) (b : List R.G) (w : World) (ha : Reads w w.heap.size 3 A1 a.length (R.gcs a)) (hla : a.length ≤ maxLen) (hca : a.length ≤ c1) (hb : Reads w w.heap.size 3 A2 b.length (R.gcs b)) (hlb : b.length ≤ maxLen) (hcb : b.length ≤ c2) :
    Calls Try.prog 7 #[.slice A1 a.length c1, .slice A2 b.length c2] w fun e w' => e = .returned (.bool true) ∧ Below w.heap.size w w' := by
  have FN := Lib.hid (fine2_any A1 A2 c1 c2 a.length b.length w hla hlb)
  have b0 : Below w.heap.size w (w.alloc (.cells #[.slice A1 a.length c1, .slice A2 b.length c2] 22)) := (Below.refl _ _).alloc (Nat.le_refl _) _
  have B0 := Lib.hid b0
  have HA := Lib.hid ha
  have HB := Lib.hid hb
  clear ha hb hla hlb
  cases hf : R.fine [a.length, b.length] with
  | false =>
    rw [hf] at FN
    clear hf b0
    go_enter Try.func7, Try.ntmps7
    go_wp2_with fail
    refine FN.out.mono ?_
    rintro e w1 ⟨rfl, rfl⟩
    go_wp2_with fail
    refine (awake_any _).mono ?_
    rintro e w5 ⟨rfl, b5⟩
    go_wp2_with fail
    go_ret
    exact ⟨rfl, B0.out.trans (b5.mono B0.out.size)⟩
  | true =>
  rw [hf] at FN
  obtain ⟨la, lb⟩ := R.fine2 hf
  clear hf b0
  go_enter Try.func7, Try.ntmps7
  go_wp2_with fail
  refine FN.out.mono ?_
  rintro e w1 ⟨rfl, rfl⟩
  obtain ⟨W1, hW1⟩ : ∃ W, w.alloc (.cells #[.slice A1 a.length c1, .slice A2 b.length c2] 22) = W := ⟨_, rfl⟩
  rw [hW1] at B0 ⊢
  clear hW1 FN
  have ta := trim_len a
  have tb := trim_len b
  have SP := Lib.hid (splices_any A1 A2 c1 c2 w.heap.size 0 a b W1 (HA.out.below B0.out (Nat.le_refl _)) (HB.out.below B0.out (Nat.le_refl _)) B0.out.size (by omega) (by omega) hca hcb)
  go_wp2_with fail
  refine SP.out.mono ?_
  rintro e w3 ⟨v3, xs, rfl, own3, hx, b3⟩
  obtain ⟨A4, c4, rfl, ch4, _⟩ := own3.chs
  have lx := R.sp_low (by omega) (by omega) hx
  have hxl : xs.length = (R.splices R.bl a b).length := by have := congrArg List.length hx; simpa using this
  have HX := Lib.hid hx
  have HXL := Lib.hid hxl
  have CH4 := Lib.hid ch4
  have B3 := Lib.hid (B0.out.trans (b3.mono B0.out.size))
  have hxn := lx.1
  have LX := Lib.hid lx
  have XK : Hid (∀ k (h : k < xs.length) (h2 : k < (R.splices R.bl a b).length), xs[k].c = R.Cx.of 0 (R.splices R.bl a b)[k]) := Lib.hid (fun k h h2 => by
    have := congrArg (fun l => l[k]?) hx
    simpa [h, h2] using this)
  have CO := Lib.hid (R.costX_of hx)
  have SB := Lib.hid (R.sp_bd (a := a) (b := b) (by omega) (by omega)).2
  have RP := Lib.hid (replace_any A1 A2 c1 c2 w.heap.size 0 a b w3 (HA.out.below B3.out (Nat.le_refl _)) (HB.out.below B3.out (Nat.le_refl _)) B3.out.size (by omega) (by omega) hca hcb)
  clear SP own3 hx ch4 lx hxl b3 B0
  go_wp2_with fail
  refine RP.out.mono ?_
  rintro e w4 ⟨v4, rfl, own4, b4⟩
  obtain ⟨A8, c8, rfl, r8, hc8⟩ := own_reads_cap own4
  have R8 := Lib.hid r8
  have B4 := Lib.hid (B3.out.trans (b4.mono B3.out.size))
  have CH5 := Lib.hid ((CH4.out.below b4 (Nat.le_refl _)).more b4.size)
  obtain ⟨X, hX⟩ : ∃ X, R.trimEnd R.bl a = X := ⟨_, rfl⟩
  obtain ⟨Y, hY⟩ : ∃ Y, R.trimEnd R.bl b = Y := ⟨_, rfl⟩
  obtain ⟨cs, hcs⟩ : ∃ cs, R.splices R.bl a b = cs := ⟨_, rfl⟩
  have SD := R.sum_dist R.bl a b
  have LS := R.least R.bl a b
  have NI := R.splices_nil_iff R.bl a b
  have hRP : R.repl R.bl a b = ⟨0, (X.length : Nat), Y⟩ := by unfold R.repl; rw [hX, hY]
  rw [hRP] at SD LS
  rw [hX, hY, hcs] at SD NI
  rw [hcs] at LS HX HXL XK SB CO
  have T1 := Lib.hid (fun W (h : Below w4.heap.size w4 W) => trim_any A1 c1 w.heap.size a W (HA.out.below (B4.out.trans (h.mono B4.out.size)) (Nat.le_refl _)) (Nat.le_trans B4.out.size h.size) (by omega) hca)
  have T2 := Lib.hid (fun W (h : Below w4.heap.size w4 W) => trim_any A2 c2 w.heap.size b W (HB.out.below (B4.out.trans (h.mono B4.out.size)) (Nat.le_refl _)) (Nat.le_trans B4.out.size h.size) (by omega) hcb)
  rw [hX] at ta T1
  rw [hY] at tb T2
  have hc8' : Y.length ≤ c8 := by rw [← hY]; exact hc8
  have R8' : Hid (Reads w4 w4.heap.size 3 A8 Y.length (R.gcs Y)) := Lib.hid (by rw [← hY]; exact R8.out)
  replace SD := Lib.hid SD
  replace LS := Lib.hid LS
  replace NI := Lib.hid NI
  simp only [R.Cs.cells]
  rw [hX, hY]
  clear RP own4 r8 b4 CH4 B3 hX hY hcs hRP hc8 R8 HA HB
  have BA : Below w4.heap.size w4 (w4.alloc (.cells #[.int .i64 3, .int .i64 0, .int .i64 0, .int .i64 (X.length : Int), .int .i64 0, .slice A8 Y.length c8] 29)) := (Below.refl _ _).alloc (Nat.le_refl _) _
  have VA : (w4.alloc (.cells #[.int .i64 3, .int .i64 0, .int .i64 0, .int .i64 (X.length : Int), .int .i64 0, .slice A8 Y.length c8] 29)).heap[w4.heap.size]? = some (.cells #[.int .i64 3, .int .i64 0, .int .i64 0, .int .i64 (X.length : Int), .int .i64 0, .slice A8 Y.length c8] 29 (0, 0)) := heap_alloc_new w4 _
  replace BA := Lib.hid BA
  replace VA := Lib.hid VA
  obtain ⟨bx, hbx⟩ : ∃ g, w4.heap.size = g := ⟨_, rfl⟩
  have HBX := Lib.hid hbx
  go_wp2_with fail
  rw [hbx] at VA
  clear hbx
  go_loopw [7, 25] (fun v7 v25 wr => ∃ k : Nat, k ≤ xs.length ∧ v25 = .int .i64 k ∧ v7 = .int .i64 (R.sum (cs.take k)) ∧ Hid (wr.heap[bx]? = some (.cells #[.int .i64 3, .int .i64 0, .int .i64 0, .int .i64 (X.length : Int), .int .i64 0, .slice A8 Y.length c8] 29 (0, 0))) ∧ Hid (Below w4.heap.size w4 wr)) (fun _ v _ => xs.length - (intOf v).toNat)
  case atStart => exact ⟨0, Nat.zero_le _, rfl, rfl, VA, BA⟩
  case round =>
    clear VA BA
    obtain ⟨k, hk, rfl, rfl, hv, hbl⟩ := hrel
    by_cases hlt : k < xs.length
    · obtain ⟨b4, o4, rfl, hb4, h4⟩ := CH5.out.at_ (by omega)
      obtain ⟨k0, k1, k2, k3, k4, k5⟩ := h4 k hlt
      obtain ⟨Ag, cg, sg, _, _⟩ := CH5.out.gl xs[k] (List.getElem_mem hlt)
      have hkc : k < cs.length := by rw [← HXL.out]; exact hlt
      have hxc := XK.out k hlt hkc
      have hcc : xs[k].c.count = cs[k].count := by rw [hxc]; rfl
      have hgx : xs[k].c.gl.length = cs[k].gl.length := by rw [hxc]; rfl
      have hcm := SB.out cs[k] (List.getElem_mem hkc)
      have hsb := R.sum_bd SB.out k
      have ST := Lib.hid (R.sum_take hkc)
      rw [hcc] at k3
      rw [sg, hgx] at k5
      have key : ∀ p : Addr, p.block < w4.heap.size → wr.cell? p = w4.cell? p := fun p hp => hbl.out.cell hp
      have z0 := (key ⟨b4, _, none⟩ hb4).trans k0
      have z1 := (key ⟨b4, _, none⟩ hb4).trans k1
      have z2 := (key ⟨b4, _, none⟩ hb4).trans k2
      have z3 := (key ⟨b4, _, none⟩ hb4).trans k3
      have z4 := (key ⟨b4, _, none⟩ hb4).trans k4
      have z5 := (key ⟨b4, _, none⟩ hb4).trans k5
      have q1 : (0 : Int) ≤ (k : Int) := by omega
      have q2 : (k : Int) < (xs.length : Int) := by omega
      clear key k0 k1 k2 k3 k4 k5 h4 sg hxc hcc hgx
      generalize cs[k].count = y3 at *
      generalize cs[k].gl.length = y5 at *
      obtain ⟨m1, m2, m3⟩ := hcm
      clear hkc
      generalize R.sum (cs.take k) = sm at *
      generalize xs[k].c.kind = y0 at *
      generalize xs[k].c.row = y1 at *
      generalize xs[k].c.col = y2 at *
      generalize xs[k].c.to = y4 at *
      go_wp2_with fail
      exact ⟨⟨k + 1, hlt, by go_num, by rw [ST.out], Lib.hid (heap_old2 _ _ hv.out), Lib.hid (hbl.out.alloc hbl.out.size _)⟩, by simp [intOf]; omega⟩
    · obtain rfl : k = xs.length := by omega
      have q2 : decide (xs.length < xs.length) = false := decide_eq_false (by omega)
      have hall : cs.take xs.length = cs := by rw [HXL.out]; exact List.take_length
      have hsb := R.sum_bd SB.out xs.length
      rw [hall] at hsb ⊢
      clear hall
      have T1' := Lib.hid (T1.out wr hbl.out)
      obtain ⟨bx4, hbx4⟩ : ∃ q, w4.heap.size = q := ⟨_, rfl⟩
      clear T1 hbx4
      go_wp2_with fail
      refine T1'.out.mono ?_
      rintro e w5 ⟨v5, rfl, own5, b5⟩
      obtain ⟨A5, c5, rfl, r5, hc5⟩ := own_reads_cap own5
      have R5 := Lib.hid r5
      have B5 := Lib.hid (hbl.out.trans (b5.mono hbl.out.size))
      have hbxr : bx < wr.heap.size := (Array.getElem?_eq_some_iff.1 hv.out).1
      have V5 := Lib.hid ((b5.block bx hbxr).trans hv.out)
      have T2' := Lib.hid (T2.out w5 B5.out)
      clear T1' own5 r5 b5 T2 hv hbl
      go_wp2_with fail
      refine T2'.out.mono ?_
      rintro e w6 ⟨v6, rfl, own6, b6⟩
      obtain ⟨A6, c6, rfl, r6, hc6⟩ := own_reads_cap own6
      have B6 := Lib.hid (B5.out.trans (b6.mono B5.out.size))
      have hbxr5 : bx < w5.heap.size := (Array.getElem?_eq_some_iff.1 V5.out).1
      have V6 := Lib.hid ((b6.block bx hbxr5).trans V5.out)
      have DS := Lib.hid (dist_any A5 A6 c5 c6 w6.heap.size X Y w6 ((R5.out.below b6 (Nat.le_refl _)).more b6.size) r6 (Nat.le_refl _) (by omega) (by omega))
      clear T2' own6 r6 b6 V5 R5 B5
      go_wp2_with fail
      refine DS.out.mono ?_
      rintro e w7 ⟨rfl, b7⟩
      have B7 := Lib.hid (B6.out.trans (b7.mono B6.out.size))
      have hbxr6 : bx < w6.heap.size := (Array.getElem?_eq_some_iff.1 V6.out).1
      have V7 := Lib.hid ((b7.block bx hbxr6).trans V6.out)
      have hbxr7 : bx < w7.heap.size := (Array.getElem?_eq_some_iff.1 V7.out).1
      have BW := Lib.hid (B4.out.trans (B7.out.mono B4.out.size))
      have DZ := Lib.hid (E.dist_zero X Y)
      obtain ⟨d, hd⟩ : ∃ d, E.dist X Y = d := ⟨_, rfl⟩
      have HD0 : Hid (d ≤ 100) := Lib.hid (by have := E.dist_int X Y; omega)
      rw [hd] at SD DZ ⊢
      clear DS b7 V6 B6 hd hbxr hbxr5 hbxr6 hsb
      by_cases hd0 : d = 0
      · have hnil : cs = [] := NI.out.2 (DZ.out.1 hd0)
        have hxs0 : xs.length = 0 := by rw [HXL.out, hnil]; rfl
        have hq1 : ((d : Int) == 0) = true := by rw [hd0]; rfl
        have hq2 : ((xs.length : Int) == 0) = true := by rw [hxs0]; rfl
        clear hnil hxs0
        go_wp2_with fail
        refine (awake_any _).mono ?_
        rintro e w12 ⟨rfl, b12⟩
        go_wp2_with fail
        go_ret
        exact ⟨rfl, BW.out.trans (b12.mono BW.out.size)⟩
      · have hq1 : ((d : Int) == 0) = false := by rw [beq_eq_false_iff_ne]; omega
        have hcs0 : cs ≠ [] := fun h => hd0 (DZ.out.2 (NI.out.1 h))
        have hcost : R.cost cs ≤ R.cost [(⟨0, (X.length : Nat), Y⟩ : R.Ch R.G)] := LS.out.resolve_right hcs0
        have hdn : (d : Int) ≤ R.sum cs := by rcases SD.out with h | ⟨_, h⟩ <;> omega
        have hdif : R.sum cs ≠ (d : Int) → cs = [⟨0, (X.length : Nat), Y⟩] := fun h => by rcases SD.out with h' | ⟨h', _⟩ <;> first | exact absurd h' h | exact h'
        have HDIF := Lib.hid hdif
        have KX : Hid (∀ W, Below w7.heap.size w7 W → Calls Try.prog 21 #[.slice A4 xs.length c4] W fun e w' => e = .returned (.int .i64 (R.cost cs)) ∧ Below W.heap.size W w') := Lib.hid (fun W h => by
          have := cost_any A4 c4 w4.heap.size xs W (CH5.out.below (B7.out.trans (h.mono B7.out.size)) (Nat.le_refl _)) (Nat.le_trans B7.out.size h.size) (by omega) LX.out.2
          rw [CO.out] at this
          exact this)
        have ONE : Hid (∀ W, Below w7.heap.size w7 W → R.Chs (W.alloc (.cells #[.int .i64 3, .int .i64 0, .int .i64 0, .int .i64 (X.length : Int), .int .i64 0, .slice A8 Y.length c8] 29)) (W.alloc (.cells #[.int .i64 3, .int .i64 0, .int .i64 0, .int .i64 (X.length : Int), .int .i64 0, .slice A8 Y.length c8] 29)).heap.size (some ⟨W.heap.size, 0, none⟩) [⟨⟨3, 0, 0, X.length, 0, Y⟩, .slice A8 Y.length c8⟩]) := Lib.hid (fun W h =>
          R.chs_one W ⟨⟨3, 0, 0, X.length, 0, Y⟩, .slice A8 Y.length c8⟩ A8 c8 rfl (((R8'.out.below (B7.out.trans (h.mono B7.out.size)) (Nat.le_refl _))).more (Nat.le_trans B7.out.size h.size)) hc8')
        have K1 : Hid (∀ (W : World) (Ay : Option Addr), R.Chs W W.heap.size Ay [⟨⟨3, 0, 0, X.length, 0, Y⟩, .slice A8 Y.length c8⟩] → Calls Try.prog 21 #[.slice Ay 1 1] W fun e w' => e = .returned (.int .i64 (R.cost [(⟨0, (X.length : Nat), Y⟩ : R.Ch R.G)])) ∧ Below W.heap.size W w') := Lib.hid (fun W Ay h => by
          have := cost_any Ay 1 W.heap.size [⟨⟨3, 0, 0, X.length, 0, Y⟩, .slice A8 Y.length c8⟩] W h (Nat.le_refl _) (by simp) (R.one_low (by simp only; omega))
          have e : R.costX [⟨⟨3, 0, 0, X.length, 0, Y⟩, .slice A8 Y.length c8⟩] = R.cost [(⟨0, (X.length : Nat), Y⟩ : R.Ch R.G)] := by simp [R.costX, R.priceX, R.cost, R.price]
          rw [e] at this
          exact this)
        have SMW : Hid (∀ (W : World) (Ay : Option Addr), Below w7.heap.size w7 W → R.Chs W W.heap.size Ay [⟨⟨3, 0, 0, X.length, 0, Y⟩, .slice A8 Y.length c8⟩] → cs = [⟨0, (X.length : Nat), Y⟩] → Calls Try.prog 13 #[.slice A4 xs.length c4, .slice Ay 1 1] W fun e w' => e = .returned (.bool true) ∧ ∃ n, w' = W.drewN n) := Lib.hid (fun W Ay hw h1 h2 => by
          have h := same_any A4 Ay c4 1 W.heap.size xs [⟨⟨3, 0, 0, X.length, 0, Y⟩, .slice A8 Y.length c8⟩] W ((CH5.out.below (B7.out.trans (hw.mono B7.out.size)) (Nat.le_refl _)).more (Nat.le_trans B7.out.size hw.size)) h1 (by omega) (by simp) LX.out.2 (R.one_low (by simp only; omega))
          rw [decide_eq_true (by rw [HX.out, h2]; rfl)] at h
          exact h)
        have SH : Hid (∀ W : World, W.heap[bx]? = some (.cells #[.int .i64 3, .int .i64 0, .int .i64 0, .int .i64 (X.length : Int), .int .i64 0, .slice A8 Y.length c8] 29 (0, 0)) → (W.cell? ⟨bx, 0, none⟩ = some (.int .i64 3) ∧ W.cell? ⟨bx, 1, none⟩ = some (.int .i64 0) ∧ W.cell? ⟨bx, 2, none⟩ = some (.int .i64 0) ∧ W.cell? ⟨bx, 3, none⟩ = some (.int .i64 (X.length : Int)) ∧ W.cell? ⟨bx, 4, none⟩ = some (.int .i64 0) ∧ W.cell? ⟨bx, 5, none⟩ = some (.slice A8 Y.length c8) ∧ W.heap[bx]? = some (.cells #[.int .i64 3, .int .i64 0, .int .i64 0, .int .i64 (X.length : Int), .int .i64 0, .slice A8 Y.length c8] 29 (0, 0)))) := Lib.hid (fun W h => ⟨cell_of_block_ h, cell_of_block_ h, cell_of_block_ h, cell_of_block_ h, cell_of_block_ h, cell_of_block_ h, h⟩)
        have q3 : decide (R.cost cs ≤ R.cost [(⟨0, (X.length : Nat), Y⟩ : R.Ch R.G)]) = true := decide_eq_true hcost
        have q4 : decide ((d : Int) ≤ R.sum cs) = true := decide_eq_true hdn
        generalize R.cost cs = p1 at *
        generalize R.cost [(⟨0, (X.length : Nat), Y⟩ : R.Ch R.G)] = p2 at *
        generalize R.sum cs = n at *
        have B7' := B7.out.size
        clear SD LS NI DZ hd0 hcs0 hdif HX LX R8' CH5 CO SB XK
        by_cases hnd : n = (d : Int)
        · have hnb : (n == (d : Int)) = true := by rw [hnd]; simp
          rw [hnd] at q4 hdn ⊢
          rw [hnd] at hnb
          clear hnd HDIF SMW
          go_wp2_with fail
          refine wp_region_held_drew (S := fun w' => w'.cell? ⟨bx, 0, none⟩ = some (.int .i64 3) ∧ w'.cell? ⟨bx, 1, none⟩ = some (.int .i64 0) ∧ w'.cell? ⟨bx, 2, none⟩ = some (.int .i64 0) ∧ w'.cell? ⟨bx, 3, none⟩ = some (.int .i64 (X.length : Int)) ∧ w'.cell? ⟨bx, 4, none⟩ = some (.int .i64 0) ∧ w'.cell? ⟨bx, 5, none⟩ = some (.slice A8 Y.length c8) ∧ w'.heap[bx]? = some (.cells #[.int .i64 3, .int .i64 0, .int .i64 0, .int .i64 (X.length : Int), .int .i64 0, .slice A8 Y.length c8] 29 (0, 0))) (by kernel_rfl) (SH.out _ V7.out) (fun hHeld => ?_)
          have BD0 : Below w7.heap.size w7 w7.drew := (Below.refl _ _).drew
          have V0 : w7.drew.heap[bx]? = some (.cells #[.int .i64 3, .int .i64 0, .int .i64 0, .int .i64 (X.length : Int), .int .i64 0, .slice A8 Y.length c8] 29 (0, 0)) := V7.out
          have hbx0 : bx < w7.drew.heap.size := hbxr7
          obtain ⟨WD, hWD⟩ : ∃ W, w7.drew = W := ⟨_, rfl⟩
          rw [hWD] at BD0 V0 hbx0 hHeld ⊢
          have BD := Lib.hid BD0
          have VD := Lib.hid V0
          clear hWD BD0 V0
          refine tk 0 rfl (by kernel_rfl) hHeld (fun _ _ _ h => h) (v := ?_) ?_ ?_
          rotate_left 1
          · (intro w hSw; (try dsimp only at hSw); (try simp only [List.getElem_toArray, List.getElem_cons_succ, List.getElem_cons_zero]); go_simp) <;> (with_reducible rfl)
          try simp only [List.getElem_toArray, List.getElem_cons_succ, List.getElem_cons_zero, Act.put, List.setIfInBounds_toArray, List.set_cons_zero, List.set_cons_succ]
          refine tk 2 rfl (by kernel_rfl) hHeld (fun _ _ _ h => h) (v := ?_) ?_ ?_
          rotate_left 1
          · (intro w hSw; (try dsimp only at hSw); (try simp only [List.getElem_toArray, List.getElem_cons_succ, List.getElem_cons_zero]); go_simp) <;> (with_reducible rfl)
          try simp only [List.getElem_toArray, List.getElem_cons_succ, List.getElem_cons_zero, Act.put, List.setIfInBounds_toArray, List.set_cons_zero, List.set_cons_succ]
          refine wpAnyH_ready (rs := [1, 3]) (by kernel_rfl) (by simp) (AllReadyH.cons rfl (fun K hK => ?_) (AllReadyH.cons rfl (fun K hK => ?_) AllReadyH.nil))
          ·
              simp only [List.getElem_toArray, List.getElem_cons_succ, List.getElem_cons_zero]
              go_simp
              go_at_call 21
              (with_reducible refine (KX.out _ BD.out).mono ?_)
              rintro e w8 ⟨rfl, b9⟩
              have B8 := Lib.hid (BD.out.trans (b9.mono BD.out.size))
              have V8 := Lib.hid ((b9.block bx (Nat.lt_of_lt_of_le hbxr7 BD.out.size)).trans VD.out)
              try go_wp2_with fail
              clear b9
              refine hK.out _ _ (SH.out _ V8.out) (fun hHeld => ?_)
              clear hK K
              try simp only [List.getElem_toArray, List.getElem_cons_succ, List.getElem_cons_zero, Act.put, List.setIfInBounds_toArray, List.set_cons_zero, List.set_cons_succ]
              refine wpAnyH_ready (rs := [3]) (by kernel_rfl) (by simp) (AllReadyH.cons rfl (fun K hK => ?_) AllReadyH.nil)
              simp only [List.getElem_toArray, List.getElem_cons_succ, List.getElem_cons_zero]
              go_simp
              have CH90 := ONE.out _ B8.out
              have ba : Below w8.heap.size w8 (w8.alloc (.cells #[.int .i64 3, .int .i64 0, .int .i64 0, .int .i64 (X.length : Int), .int .i64 0, .slice A8 Y.length c8] 29)) := (Below.refl _ _).alloc (Nat.le_refl _) _
              have B90 := B8.out.trans (ba.mono B8.out.size)
              have V90 := heap_old2 w8 (.cells #[.int .i64 3, .int .i64 0, .int .i64 0, .int .i64 (X.length : Int), .int .i64 0, .slice A8 Y.length c8] 29) V8.out
              refine hK.out _ _ (SH.out _ V90) (fun hHeld => ?_)
              clear hK K
              try simp only [List.getElem_toArray, List.getElem_cons_succ, List.getElem_cons_zero, Act.put, List.setIfInBounds_toArray, List.set_cons_zero, List.set_cons_succ]
              obtain ⟨w9, hw9⟩ : ∃ W, w8.alloc (.cells #[.int .i64 3, .int .i64 0, .int .i64 0, .int .i64 (X.length : Int), .int .i64 0, .slice A8 Y.length c8] 29) = W := ⟨_, rfl⟩
              rw [hw9] at CH90 B90 V90 hHeld ba ⊢
              have B9 := Lib.hid B90
              have V9 := Lib.hid V90
              have CH9 := Lib.hid CH90
              clear hw9 CH90 B90 V90
              refine wpAnyH_ready (rs := [4]) (by kernel_rfl) (by simp) (AllReadyH.cons rfl (fun K hK => ?_) AllReadyH.nil)
              simp only [List.getElem_toArray, List.getElem_cons_succ, List.getElem_cons_zero]
              go_simp
              go_at_call 21
              (with_reducible refine (K1.out _ _ CH9.out).mono ?_)
              rintro e w10 ⟨rfl, b9⟩
              have B10 := Lib.hid (B9.out.trans (b9.mono B9.out.size))
              have V10 := Lib.hid ((b9.block bx (Nat.lt_of_lt_of_le hbxr7 B9.out.size)).trans V9.out)
              try go_wp2_with fail
              clear b9
              refine hK.out _ _ (SH.out _ V10.out) (fun hHeld => ?_)
              clear hK K
              try simp only [List.getElem_toArray, List.getElem_cons_succ, List.getElem_cons_zero, Act.put, List.setIfInBounds_toArray, List.set_cons_zero, List.set_cons_succ]
              refine tk 5 rfl (by kernel_rfl) hHeld (fun _ _ _ h => h) (v := ?_) ?_ ?_
              rotate_left 1
              · (intro w hSw; (try dsimp only at hSw); (try simp only [List.getElem_toArray, List.getElem_cons_succ, List.getElem_cons_zero]); go_simp) <;> (with_reducible rfl)
              try simp only [List.getElem_toArray, List.getElem_cons_succ, List.getElem_cons_zero, Act.put, List.setIfInBounds_toArray, List.set_cons_zero, List.set_cons_succ]
              refine tk 6 rfl (by kernel_rfl) hHeld (fun _ _ _ h => h) (v := ?_) ?_ ?_
              rotate_left 1
              · (intro w hSw; (try dsimp only at hSw); (try simp only [List.getElem_toArray, List.getElem_cons_succ, List.getElem_cons_zero]); go_simp) <;> (with_reducible rfl)
              try simp only [List.getElem_toArray, List.getElem_cons_succ, List.getElem_cons_zero, Act.put, List.setIfInBounds_toArray, List.set_cons_zero, List.set_cons_succ]
              refine tk 7 rfl (by kernel_rfl) hHeld (fun _ _ _ h => h) (v := ?_) ?_ ?_
              rotate_left 1
              · (intro w hSw; (try dsimp only at hSw); (try simp only [List.getElem_toArray, List.getElem_cons_succ, List.getElem_cons_zero]); go_simp) <;> (with_reducible rfl)
              try simp only [List.getElem_toArray, List.getElem_cons_succ, List.getElem_cons_zero, Act.put, List.setIfInBounds_toArray, List.set_cons_zero, List.set_cons_succ]
              refine tk 8 rfl (by kernel_rfl) hHeld (fun _ _ _ h => h) (v := ?_) ?_ ?_
              rotate_left 1
              · (intro w hSw; (try dsimp only at hSw); (try simp only [List.getElem_toArray, List.getElem_cons_succ, List.getElem_cons_zero]); go_simp) <;> (with_reducible rfl)
              try simp only [List.getElem_toArray, List.getElem_cons_succ, List.getElem_cons_zero, Act.put, List.setIfInBounds_toArray, List.set_cons_zero, List.set_cons_succ]
              refine tk 9 rfl (by kernel_rfl) hHeld (fun _ _ _ h => h) (v := ?_) ?_ ?_
              rotate_left 1
              · (intro w hSw; (try dsimp only at hSw); (try simp only [List.getElem_toArray, List.getElem_cons_succ, List.getElem_cons_zero]); go_simp) <;> (with_reducible rfl)
              try simp only [List.getElem_toArray, List.getElem_cons_succ, List.getElem_cons_zero, Act.put, List.setIfInBounds_toArray, List.set_cons_zero, List.set_cons_succ]
              refine tk 10 rfl (by kernel_rfl) hHeld (fun _ _ _ h => h) (v := ?_) ?_ ?_
              rotate_left 1
              · (intro w hSw; (try dsimp only at hSw); (try simp only [List.getElem_toArray, List.getElem_cons_succ, List.getElem_cons_zero]); go_simp) <;> (with_reducible rfl)
              try simp only [List.getElem_toArray, List.getElem_cons_succ, List.getElem_cons_zero, Act.put, List.setIfInBounds_toArray, List.set_cons_zero, List.set_cons_succ]
              refine tk 11 rfl (by kernel_rfl) hHeld (fun _ _ _ h => h) (v := ?_) ?_ ?_
              rotate_left 1
              · (intro w hSw; (try dsimp only at hSw); (try simp only [List.getElem_toArray, List.getElem_cons_succ, List.getElem_cons_zero]); go_simp) <;> (with_reducible rfl)
              try simp only [List.getElem_toArray, List.getElem_cons_succ, List.getElem_cons_zero, Act.put, List.setIfInBounds_toArray, List.set_cons_zero, List.set_cons_succ]
              refine tk 12 rfl (by kernel_rfl) hHeld (fun _ _ _ h => h) (v := ?_) ?_ ?_
              rotate_left 1
              · (intro w hSw; (try dsimp only at hSw); (try simp only [List.getElem_toArray, List.getElem_cons_succ, List.getElem_cons_zero]); go_simp) <;> (with_reducible rfl)
              try simp only [List.getElem_toArray, List.getElem_cons_succ, List.getElem_cons_zero, Act.put, List.setIfInBounds_toArray, List.set_cons_zero, List.set_cons_succ]
              refine tk 13 rfl (by kernel_rfl) hHeld (fun _ _ _ h => h) (v := ?_) ?_ ?_
              rotate_left 1
              · (intro w hSw; (try dsimp only at hSw); (try simp only [List.getElem_toArray, List.getElem_cons_succ, List.getElem_cons_zero]); go_simp) <;> (with_reducible rfl)
              try simp only [List.getElem_toArray, List.getElem_cons_succ, List.getElem_cons_zero, Act.put, List.setIfInBounds_toArray, List.set_cons_zero, List.set_cons_succ]
              refine tk 14 rfl (by kernel_rfl) hHeld (fun _ _ _ h => h) (v := ?_) ?_ ?_
              rotate_left 1
              · (intro w hSw; (try dsimp only at hSw); (try simp only [List.getElem_toArray, List.getElem_cons_succ, List.getElem_cons_zero]); go_simp) <;> (with_reducible rfl)
              try simp only [List.getElem_toArray, List.getElem_cons_succ, List.getElem_cons_zero, Act.put, List.setIfInBounds_toArray, List.set_cons_zero, List.set_cons_succ]
              refine tk 15 rfl (by kernel_rfl) hHeld (fun _ _ _ h => h) (v := ?_) ?_ ?_
              rotate_left 1
              · (intro w hSw; (try dsimp only at hSw); (try simp only [List.getElem_toArray, List.getElem_cons_succ, List.getElem_cons_zero]); go_simp) <;> (with_reducible rfl)
              try simp only [List.getElem_toArray, List.getElem_cons_succ, List.getElem_cons_zero, Act.put, List.setIfInBounds_toArray, List.set_cons_zero, List.set_cons_succ]
              refine sk 16 rfl (by kernel_rfl) hHeld (fun _ _ _ h => h) ?_
              try simp only [List.getElem_toArray, List.getElem_cons_succ, List.getElem_cons_zero, Act.put, List.setIfInBounds_toArray, List.set_cons_zero, List.set_cons_succ]
              refine sk 17 rfl (by kernel_rfl) hHeld (fun _ _ _ h => h) ?_
              try simp only [List.getElem_toArray, List.getElem_cons_succ, List.getElem_cons_zero, Act.put, List.setIfInBounds_toArray, List.set_cons_zero, List.set_cons_succ]
              refine sk 18 rfl (by kernel_rfl) hHeld (fun _ _ _ h => h) ?_
              try simp only [List.getElem_toArray, List.getElem_cons_succ, List.getElem_cons_zero, Act.put, List.setIfInBounds_toArray, List.set_cons_zero, List.set_cons_succ]
              refine sk 19 rfl (by kernel_rfl) hHeld (fun _ _ _ h => h) ?_
              try simp only [List.getElem_toArray, List.getElem_cons_succ, List.getElem_cons_zero, Act.put, List.setIfInBounds_toArray, List.set_cons_zero, List.set_cons_succ]
              refine tk 20 rfl (by kernel_rfl) hHeld (fun _ _ _ h => h) (v := ?_) ?_ ?_
              rotate_left 1
              · (intro w hSw; (try dsimp only at hSw); (try simp only [List.getElem_toArray, List.getElem_cons_succ, List.getElem_cons_zero]); go_simp) <;> (with_reducible rfl)
              try simp only [List.getElem_toArray, List.getElem_cons_succ, List.getElem_cons_zero, Act.put, List.setIfInBounds_toArray, List.set_cons_zero, List.set_cons_succ]
              refine tk 21 rfl (by kernel_rfl) hHeld (fun _ _ _ h => h) (v := ?_) ?_ ?_
              rotate_left 1
              · (intro w hSw; (try dsimp only at hSw); (try simp only [List.getElem_toArray, List.getElem_cons_succ, List.getElem_cons_zero]); go_simp) <;> (with_reducible rfl)
              try simp only [List.getElem_toArray, List.getElem_cons_succ, List.getElem_cons_zero, Act.put, List.setIfInBounds_toArray, List.set_cons_zero, List.set_cons_succ]
              refine tk 22 rfl (by kernel_rfl) hHeld (fun _ _ _ h => h) (v := ?_) ?_ ?_
              rotate_left 1
              · (intro w hSw; (try dsimp only at hSw); (try simp only [List.getElem_toArray, List.getElem_cons_succ, List.getElem_cons_zero]); go_simp) <;> (with_reducible rfl)
              try simp only [List.getElem_toArray, List.getElem_cons_succ, List.getElem_cons_zero, Act.put, List.setIfInBounds_toArray, List.set_cons_zero, List.set_cons_succ]
              refine wpAnyH_ready (rs := [23]) (by kernel_rfl) (by simp) (AllReadyH.cons rfl (fun K hK => ?_) AllReadyH.nil)
              simp only [List.getElem_toArray, List.getElem_cons_succ, List.getElem_cons_zero]
              go_simp
              go_at_call 12
              refine (awake_any _).mono ?_
              rintro e w20 ⟨rfl, b20⟩
              have V20 := (b20.block bx (Nat.lt_of_lt_of_le hbxr7 B10.out.size)).trans V10.out
              try go_wp2_with fail
              refine hK.out _ _ (SH.out _ V20) (fun hHeld => ?_)
              clear hK K
              try simp only [List.getElem_toArray, List.getElem_cons_succ, List.getElem_cons_zero, Act.put, List.setIfInBounds_toArray, List.set_cons_zero, List.set_cons_succ]
              refine tk 24 rfl (by kernel_rfl) hHeld (fun _ _ _ h => h) (v := ?_) ?_ ?_
              rotate_left 1
              · (intro w hSw; (try dsimp only at hSw); (try simp only [List.getElem_toArray, List.getElem_cons_succ, List.getElem_cons_zero]); go_simp) <;> (with_reducible rfl)
              try simp only [List.getElem_toArray, List.getElem_cons_succ, List.getElem_cons_zero, Act.put, List.setIfInBounds_toArray, List.set_cons_zero, List.set_cons_succ]
              refine tk 25 rfl (by kernel_rfl) hHeld (fun _ _ _ h => h) (v := ?_) ?_ ?_
              rotate_left 1
              · (intro w hSw; (try dsimp only at hSw); (try simp only [List.getElem_toArray, List.getElem_cons_succ, List.getElem_cons_zero]); go_simp) <;> (with_reducible rfl)
              try simp only [List.getElem_toArray, List.getElem_cons_succ, List.getElem_cons_zero, Act.put, List.setIfInBounds_toArray, List.set_cons_zero, List.set_cons_succ]
              refine wpAnyH_done (by kernel_rfl) ?_ _
              go_wp2_with fail
              go_ret
              exact ⟨rfl, BW.out.trans ((B10.out.trans (b20.mono B10.out.size)).mono BW.out.size)⟩
          ·
              simp only [List.getElem_toArray, List.getElem_cons_succ, List.getElem_cons_zero]
              go_simp
              have CH80 := ONE.out _ BD.out
              have ba : Below WD.heap.size WD (WD.alloc (.cells #[.int .i64 3, .int .i64 0, .int .i64 0, .int .i64 (X.length : Int), .int .i64 0, .slice A8 Y.length c8] 29)) := (Below.refl _ _).alloc (Nat.le_refl _) _
              have B80 := BD.out.trans (ba.mono BD.out.size)
              have V80 := heap_old2 WD (.cells #[.int .i64 3, .int .i64 0, .int .i64 0, .int .i64 (X.length : Int), .int .i64 0, .slice A8 Y.length c8] 29) VD.out
              refine hK.out _ _ (SH.out _ V80) (fun hHeld => ?_)
              clear hK K
              try simp only [List.getElem_toArray, List.getElem_cons_succ, List.getElem_cons_zero, Act.put, List.setIfInBounds_toArray, List.set_cons_zero, List.set_cons_succ]
              obtain ⟨w8, hw8⟩ : ∃ W, WD.alloc (.cells #[.int .i64 3, .int .i64 0, .int .i64 0, .int .i64 (X.length : Int), .int .i64 0, .slice A8 Y.length c8] 29) = W := ⟨_, rfl⟩
              rw [hw8] at CH80 B80 V80 hHeld ba ⊢
              have B8 := Lib.hid B80
              have V8 := Lib.hid V80
              have CH8 := Lib.hid CH80
              clear hw8 CH80 B80 V80
              refine wpAnyH_ready (rs := [1]) (by kernel_rfl) (by simp) (AllReadyH.cons rfl (fun K hK => ?_) AllReadyH.nil)
              simp only [List.getElem_toArray, List.getElem_cons_succ, List.getElem_cons_zero]
              go_simp
              go_at_call 21
              (with_reducible refine (KX.out _ B8.out).mono ?_)
              rintro e w9 ⟨rfl, b9⟩
              have B9 := Lib.hid (B8.out.trans (b9.mono B8.out.size))
              have V9 := Lib.hid ((b9.block bx (Nat.lt_of_lt_of_le hbxr7 B8.out.size)).trans V8.out)
              have CH9 := Lib.hid ((CH8.out.below b9 (Nat.le_refl _)).more b9.size)
              try go_wp2_with fail
              clear b9
              refine hK.out _ _ (SH.out _ V9.out) (fun hHeld => ?_)
              clear hK K
              try simp only [List.getElem_toArray, List.getElem_cons_succ, List.getElem_cons_zero, Act.put, List.setIfInBounds_toArray, List.set_cons_zero, List.set_cons_succ]
              refine wpAnyH_ready (rs := [4]) (by kernel_rfl) (by simp) (AllReadyH.cons rfl (fun K hK => ?_) AllReadyH.nil)
              simp only [List.getElem_toArray, List.getElem_cons_succ, List.getElem_cons_zero]
              go_simp
              go_at_call 21
              (with_reducible refine (K1.out _ _ CH9.out).mono ?_)
              rintro e w10 ⟨rfl, b9⟩
              have B10 := Lib.hid (B9.out.trans (b9.mono B9.out.size))
              have V10 := Lib.hid ((b9.block bx (Nat.lt_of_lt_of_le hbxr7 B9.out.size)).trans V9.out)
              try go_wp2_with fail
              clear b9
              refine hK.out _ _ (SH.out _ V10.out) (fun hHeld => ?_)
              clear hK K
              try simp only [List.getElem_toArray, List.getElem_cons_succ, List.getElem_cons_zero, Act.put, List.setIfInBounds_toArray, List.set_cons_zero, List.set_cons_succ]
              refine tk 5 rfl (by kernel_rfl) hHeld (fun _ _ _ h => h) (v := ?_) ?_ ?_
              rotate_left 1
              · (intro w hSw; (try dsimp only at hSw); (try simp only [List.getElem_toArray, List.getElem_cons_succ, List.getElem_cons_zero]); go_simp) <;> (with_reducible rfl)
              try simp only [List.getElem_toArray, List.getElem_cons_succ, List.getElem_cons_zero, Act.put, List.setIfInBounds_toArray, List.set_cons_zero, List.set_cons_succ]
              refine tk 6 rfl (by kernel_rfl) hHeld (fun _ _ _ h => h) (v := ?_) ?_ ?_
              rotate_left 1
              · (intro w hSw; (try dsimp only at hSw); (try simp only [List.getElem_toArray, List.getElem_cons_succ, List.getElem_cons_zero]); go_simp) <;> (with_reducible rfl)
              try simp only [List.getElem_toArray, List.getElem_cons_succ, List.getElem_cons_zero, Act.put, List.setIfInBounds_toArray, List.set_cons_zero, List.set_cons_succ]
              refine tk 7 rfl (by kernel_rfl) hHeld (fun _ _ _ h => h) (v := ?_) ?_ ?_
              rotate_left 1
              · (intro w hSw; (try dsimp only at hSw); (try simp only [List.getElem_toArray, List.getElem_cons_succ, List.getElem_cons_zero]); go_simp) <;> (with_reducible rfl)
              try simp only [List.getElem_toArray, List.getElem_cons_succ, List.getElem_cons_zero, Act.put, List.setIfInBounds_toArray, List.set_cons_zero, List.set_cons_succ]
              refine tk 8 rfl (by kernel_rfl) hHeld (fun _ _ _ h => h) (v := ?_) ?_ ?_
              rotate_left 1
              · (intro w hSw; (try dsimp only at hSw); (try simp only [List.getElem_toArray, List.getElem_cons_succ, List.getElem_cons_zero]); go_simp) <;> (with_reducible rfl)
              try simp only [List.getElem_toArray, List.getElem_cons_succ, List.getElem_cons_zero, Act.put, List.setIfInBounds_toArray, List.set_cons_zero, List.set_cons_succ]
              refine tk 9 rfl (by kernel_rfl) hHeld (fun _ _ _ h => h) (v := ?_) ?_ ?_
              rotate_left 1
              · (intro w hSw; (try dsimp only at hSw); (try simp only [List.getElem_toArray, List.getElem_cons_succ, List.getElem_cons_zero]); go_simp) <;> (with_reducible rfl)
              try simp only [List.getElem_toArray, List.getElem_cons_succ, List.getElem_cons_zero, Act.put, List.setIfInBounds_toArray, List.set_cons_zero, List.set_cons_succ]
              refine tk 10 rfl (by kernel_rfl) hHeld (fun _ _ _ h => h) (v := ?_) ?_ ?_
              rotate_left 1
              · (intro w hSw; (try dsimp only at hSw); (try simp only [List.getElem_toArray, List.getElem_cons_succ, List.getElem_cons_zero]); go_simp) <;> (with_reducible rfl)
              try simp only [List.getElem_toArray, List.getElem_cons_succ, List.getElem_cons_zero, Act.put, List.setIfInBounds_toArray, List.set_cons_zero, List.set_cons_succ]
              refine tk 11 rfl (by kernel_rfl) hHeld (fun _ _ _ h => h) (v := ?_) ?_ ?_
              rotate_left 1
              · (intro w hSw; (try dsimp only at hSw); (try simp only [List.getElem_toArray, List.getElem_cons_succ, List.getElem_cons_zero]); go_simp) <;> (with_reducible rfl)
              try simp only [List.getElem_toArray, List.getElem_cons_succ, List.getElem_cons_zero, Act.put, List.setIfInBounds_toArray, List.set_cons_zero, List.set_cons_succ]
              refine tk 12 rfl (by kernel_rfl) hHeld (fun _ _ _ h => h) (v := ?_) ?_ ?_
              rotate_left 1
              · (intro w hSw; (try dsimp only at hSw); (try simp only [List.getElem_toArray, List.getElem_cons_succ, List.getElem_cons_zero]); go_simp) <;> (with_reducible rfl)
              try simp only [List.getElem_toArray, List.getElem_cons_succ, List.getElem_cons_zero, Act.put, List.setIfInBounds_toArray, List.set_cons_zero, List.set_cons_succ]
              refine tk 13 rfl (by kernel_rfl) hHeld (fun _ _ _ h => h) (v := ?_) ?_ ?_
              rotate_left 1
              · (intro w hSw; (try dsimp only at hSw); (try simp only [List.getElem_toArray, List.getElem_cons_succ, List.getElem_cons_zero]); go_simp) <;> (with_reducible rfl)
              try simp only [List.getElem_toArray, List.getElem_cons_succ, List.getElem_cons_zero, Act.put, List.setIfInBounds_toArray, List.set_cons_zero, List.set_cons_succ]
              refine tk 14 rfl (by kernel_rfl) hHeld (fun _ _ _ h => h) (v := ?_) ?_ ?_
              rotate_left 1
              · (intro w hSw; (try dsimp only at hSw); (try simp only [List.getElem_toArray, List.getElem_cons_succ, List.getElem_cons_zero]); go_simp) <;> (with_reducible rfl)
              try simp only [List.getElem_toArray, List.getElem_cons_succ, List.getElem_cons_zero, Act.put, List.setIfInBounds_toArray, List.set_cons_zero, List.set_cons_succ]
              refine tk 15 rfl (by kernel_rfl) hHeld (fun _ _ _ h => h) (v := ?_) ?_ ?_
              rotate_left 1
              · (intro w hSw; (try dsimp only at hSw); (try simp only [List.getElem_toArray, List.getElem_cons_succ, List.getElem_cons_zero]); go_simp) <;> (with_reducible rfl)
              try simp only [List.getElem_toArray, List.getElem_cons_succ, List.getElem_cons_zero, Act.put, List.setIfInBounds_toArray, List.set_cons_zero, List.set_cons_succ]
              refine sk 16 rfl (by kernel_rfl) hHeld (fun _ _ _ h => h) ?_
              try simp only [List.getElem_toArray, List.getElem_cons_succ, List.getElem_cons_zero, Act.put, List.setIfInBounds_toArray, List.set_cons_zero, List.set_cons_succ]
              refine sk 17 rfl (by kernel_rfl) hHeld (fun _ _ _ h => h) ?_
              try simp only [List.getElem_toArray, List.getElem_cons_succ, List.getElem_cons_zero, Act.put, List.setIfInBounds_toArray, List.set_cons_zero, List.set_cons_succ]
              refine sk 18 rfl (by kernel_rfl) hHeld (fun _ _ _ h => h) ?_
              try simp only [List.getElem_toArray, List.getElem_cons_succ, List.getElem_cons_zero, Act.put, List.setIfInBounds_toArray, List.set_cons_zero, List.set_cons_succ]
              refine sk 19 rfl (by kernel_rfl) hHeld (fun _ _ _ h => h) ?_
              try simp only [List.getElem_toArray, List.getElem_cons_succ, List.getElem_cons_zero, Act.put, List.setIfInBounds_toArray, List.set_cons_zero, List.set_cons_succ]
              refine tk 20 rfl (by kernel_rfl) hHeld (fun _ _ _ h => h) (v := ?_) ?_ ?_
              rotate_left 1
              · (intro w hSw; (try dsimp only at hSw); (try simp only [List.getElem_toArray, List.getElem_cons_succ, List.getElem_cons_zero]); go_simp) <;> (with_reducible rfl)
              try simp only [List.getElem_toArray, List.getElem_cons_succ, List.getElem_cons_zero, Act.put, List.setIfInBounds_toArray, List.set_cons_zero, List.set_cons_succ]
              refine tk 21 rfl (by kernel_rfl) hHeld (fun _ _ _ h => h) (v := ?_) ?_ ?_
              rotate_left 1
              · (intro w hSw; (try dsimp only at hSw); (try simp only [List.getElem_toArray, List.getElem_cons_succ, List.getElem_cons_zero]); go_simp) <;> (with_reducible rfl)
              try simp only [List.getElem_toArray, List.getElem_cons_succ, List.getElem_cons_zero, Act.put, List.setIfInBounds_toArray, List.set_cons_zero, List.set_cons_succ]
              refine tk 22 rfl (by kernel_rfl) hHeld (fun _ _ _ h => h) (v := ?_) ?_ ?_
              rotate_left 1
              · (intro w hSw; (try dsimp only at hSw); (try simp only [List.getElem_toArray, List.getElem_cons_succ, List.getElem_cons_zero]); go_simp) <;> (with_reducible rfl)
              try simp only [List.getElem_toArray, List.getElem_cons_succ, List.getElem_cons_zero, Act.put, List.setIfInBounds_toArray, List.set_cons_zero, List.set_cons_succ]
              refine wpAnyH_ready (rs := [23]) (by kernel_rfl) (by simp) (AllReadyH.cons rfl (fun K hK => ?_) AllReadyH.nil)
              simp only [List.getElem_toArray, List.getElem_cons_succ, List.getElem_cons_zero]
              go_simp
              go_at_call 12
              refine (awake_any _).mono ?_
              rintro e w20 ⟨rfl, b20⟩
              have V20 := (b20.block bx (Nat.lt_of_lt_of_le hbxr7 B10.out.size)).trans V10.out
              try go_wp2_with fail
              refine hK.out _ _ (SH.out _ V20) (fun hHeld => ?_)
              clear hK K
              try simp only [List.getElem_toArray, List.getElem_cons_succ, List.getElem_cons_zero, Act.put, List.setIfInBounds_toArray, List.set_cons_zero, List.set_cons_succ]
              refine tk 24 rfl (by kernel_rfl) hHeld (fun _ _ _ h => h) (v := ?_) ?_ ?_
              rotate_left 1
              · (intro w hSw; (try dsimp only at hSw); (try simp only [List.getElem_toArray, List.getElem_cons_succ, List.getElem_cons_zero]); go_simp) <;> (with_reducible rfl)
              try simp only [List.getElem_toArray, List.getElem_cons_succ, List.getElem_cons_zero, Act.put, List.setIfInBounds_toArray, List.set_cons_zero, List.set_cons_succ]
              refine tk 25 rfl (by kernel_rfl) hHeld (fun _ _ _ h => h) (v := ?_) ?_ ?_
              rotate_left 1
              · (intro w hSw; (try dsimp only at hSw); (try simp only [List.getElem_toArray, List.getElem_cons_succ, List.getElem_cons_zero]); go_simp) <;> (with_reducible rfl)
              try simp only [List.getElem_toArray, List.getElem_cons_succ, List.getElem_cons_zero, Act.put, List.setIfInBounds_toArray, List.set_cons_zero, List.set_cons_succ]
              refine wpAnyH_done (by kernel_rfl) ?_ _
              go_wp2_with fail
              go_ret
              exact ⟨rfl, BW.out.trans ((B10.out.trans (b20.mono B10.out.size)).mono BW.out.size)⟩
        · have hnb : (n == (d : Int)) = false := by rw [beq_eq_false_iff_ne]; exact hnd
          have HONE := Lib.hid (HDIF.out hnd)
          clear hnd HDIF
          go_wp2_with fail
          refine wp_region_held_drew (S := fun w' => w'.cell? ⟨bx, 0, none⟩ = some (.int .i64 3) ∧ w'.cell? ⟨bx, 1, none⟩ = some (.int .i64 0) ∧ w'.cell? ⟨bx, 2, none⟩ = some (.int .i64 0) ∧ w'.cell? ⟨bx, 3, none⟩ = some (.int .i64 (X.length : Int)) ∧ w'.cell? ⟨bx, 4, none⟩ = some (.int .i64 0) ∧ w'.cell? ⟨bx, 5, none⟩ = some (.slice A8 Y.length c8) ∧ w'.heap[bx]? = some (.cells #[.int .i64 3, .int .i64 0, .int .i64 0, .int .i64 (X.length : Int), .int .i64 0, .slice A8 Y.length c8] 29 (0, 0))) (by kernel_rfl) (SH.out _ V7.out) (fun hHeld => ?_)
          have BD0 : Below w7.heap.size w7 w7.drew := (Below.refl _ _).drew
          have V0 : w7.drew.heap[bx]? = some (.cells #[.int .i64 3, .int .i64 0, .int .i64 0, .int .i64 (X.length : Int), .int .i64 0, .slice A8 Y.length c8] 29 (0, 0)) := V7.out
          have hbx0 : bx < w7.drew.heap.size := hbxr7
          obtain ⟨WD, hWD⟩ : ∃ W, w7.drew = W := ⟨_, rfl⟩
          rw [hWD] at BD0 V0 hbx0 hHeld ⊢
          have BD := Lib.hid BD0
          have VD := Lib.hid V0
          clear hWD BD0 V0
          refine tk 0 rfl (by kernel_rfl) hHeld (fun _ _ _ h => h) (v := ?_) ?_ ?_
          rotate_left 1
          · (intro w hSw; (try dsimp only at hSw); (try simp only [List.getElem_toArray, List.getElem_cons_succ, List.getElem_cons_zero]); go_simp) <;> (with_reducible rfl)
          try simp only [List.getElem_toArray, List.getElem_cons_succ, List.getElem_cons_zero, Act.put, List.setIfInBounds_toArray, List.set_cons_zero, List.set_cons_succ]
          refine tk 2 rfl (by kernel_rfl) hHeld (fun _ _ _ h => h) (v := ?_) ?_ ?_
          rotate_left 1
          · (intro w hSw; (try dsimp only at hSw); (try simp only [List.getElem_toArray, List.getElem_cons_succ, List.getElem_cons_zero]); go_simp) <;> (with_reducible rfl)
          try simp only [List.getElem_toArray, List.getElem_cons_succ, List.getElem_cons_zero, Act.put, List.setIfInBounds_toArray, List.set_cons_zero, List.set_cons_succ]
          refine wpAnyH_ready (rs := [1, 3]) (by kernel_rfl) (by simp) (AllReadyH.cons rfl (fun K hK => ?_) (AllReadyH.cons rfl (fun K hK => ?_) AllReadyH.nil))
          ·
              simp only [List.getElem_toArray, List.getElem_cons_succ, List.getElem_cons_zero]
              go_simp
              go_at_call 21
              (with_reducible refine (KX.out _ BD.out).mono ?_)
              rintro e w8 ⟨rfl, b9⟩
              have B8 := Lib.hid (BD.out.trans (b9.mono BD.out.size))
              have V8 := Lib.hid ((b9.block bx (Nat.lt_of_lt_of_le hbxr7 BD.out.size)).trans VD.out)
              try go_wp2_with fail
              clear b9
              refine hK.out _ _ (SH.out _ V8.out) (fun hHeld => ?_)
              clear hK K
              try simp only [List.getElem_toArray, List.getElem_cons_succ, List.getElem_cons_zero, Act.put, List.setIfInBounds_toArray, List.set_cons_zero, List.set_cons_succ]
              refine wpAnyH_ready (rs := [3]) (by kernel_rfl) (by simp) (AllReadyH.cons rfl (fun K hK => ?_) AllReadyH.nil)
              simp only [List.getElem_toArray, List.getElem_cons_succ, List.getElem_cons_zero]
              go_simp
              have CH90 := ONE.out _ B8.out
              have ba : Below w8.heap.size w8 (w8.alloc (.cells #[.int .i64 3, .int .i64 0, .int .i64 0, .int .i64 (X.length : Int), .int .i64 0, .slice A8 Y.length c8] 29)) := (Below.refl _ _).alloc (Nat.le_refl _) _
              have B90 := B8.out.trans (ba.mono B8.out.size)
              have V90 := heap_old2 w8 (.cells #[.int .i64 3, .int .i64 0, .int .i64 0, .int .i64 (X.length : Int), .int .i64 0, .slice A8 Y.length c8] 29) V8.out
              refine hK.out _ _ (SH.out _ V90) (fun hHeld => ?_)
              clear hK K
              try simp only [List.getElem_toArray, List.getElem_cons_succ, List.getElem_cons_zero, Act.put, List.setIfInBounds_toArray, List.set_cons_zero, List.set_cons_succ]
              obtain ⟨w9, hw9⟩ : ∃ W, w8.alloc (.cells #[.int .i64 3, .int .i64 0, .int .i64 0, .int .i64 (X.length : Int), .int .i64 0, .slice A8 Y.length c8] 29) = W := ⟨_, rfl⟩
              rw [hw9] at CH90 B90 V90 hHeld ba ⊢
              have B9 := Lib.hid B90
              have V9 := Lib.hid V90
              have CH9 := Lib.hid CH90
              clear hw9 CH90 B90 V90
              refine wpAnyH_ready (rs := [4]) (by kernel_rfl) (by simp) (AllReadyH.cons rfl (fun K hK => ?_) AllReadyH.nil)
              simp only [List.getElem_toArray, List.getElem_cons_succ, List.getElem_cons_zero]
              go_simp
              go_at_call 21
              (with_reducible refine (K1.out _ _ CH9.out).mono ?_)
              rintro e w10 ⟨rfl, b9⟩
              have B10 := Lib.hid (B9.out.trans (b9.mono B9.out.size))
              have V10 := Lib.hid ((b9.block bx (Nat.lt_of_lt_of_le hbxr7 B9.out.size)).trans V9.out)
              try go_wp2_with fail
              clear b9
              refine hK.out _ _ (SH.out _ V10.out) (fun hHeld => ?_)
              clear hK K
              try simp only [List.getElem_toArray, List.getElem_cons_succ, List.getElem_cons_zero, Act.put, List.setIfInBounds_toArray, List.set_cons_zero, List.set_cons_succ]
              refine tk 5 rfl (by kernel_rfl) hHeld (fun _ _ _ h => h) (v := ?_) ?_ ?_
              rotate_left 1
              · (intro w hSw; (try dsimp only at hSw); (try simp only [List.getElem_toArray, List.getElem_cons_succ, List.getElem_cons_zero]); go_simp) <;> (with_reducible rfl)
              try simp only [List.getElem_toArray, List.getElem_cons_succ, List.getElem_cons_zero, Act.put, List.setIfInBounds_toArray, List.set_cons_zero, List.set_cons_succ]
              refine tk 6 rfl (by kernel_rfl) hHeld (fun _ _ _ h => h) (v := ?_) ?_ ?_
              rotate_left 1
              · (intro w hSw; (try dsimp only at hSw); (try simp only [List.getElem_toArray, List.getElem_cons_succ, List.getElem_cons_zero]); go_simp) <;> (with_reducible rfl)
              try simp only [List.getElem_toArray, List.getElem_cons_succ, List.getElem_cons_zero, Act.put, List.setIfInBounds_toArray, List.set_cons_zero, List.set_cons_succ]
              refine tk 7 rfl (by kernel_rfl) hHeld (fun _ _ _ h => h) (v := ?_) ?_ ?_
              rotate_left 1
              · (intro w hSw; (try dsimp only at hSw); (try simp only [List.getElem_toArray, List.getElem_cons_succ, List.getElem_cons_zero]); go_simp) <;> (with_reducible rfl)
              try simp only [List.getElem_toArray, List.getElem_cons_succ, List.getElem_cons_zero, Act.put, List.setIfInBounds_toArray, List.set_cons_zero, List.set_cons_succ]
              refine tk 8 rfl (by kernel_rfl) hHeld (fun _ _ _ h => h) (v := ?_) ?_ ?_
              rotate_left 1
              · (intro w hSw; (try dsimp only at hSw); (try simp only [List.getElem_toArray, List.getElem_cons_succ, List.getElem_cons_zero]); go_simp) <;> (with_reducible rfl)
              try simp only [List.getElem_toArray, List.getElem_cons_succ, List.getElem_cons_zero, Act.put, List.setIfInBounds_toArray, List.set_cons_zero, List.set_cons_succ]
              refine tk 9 rfl (by kernel_rfl) hHeld (fun _ _ _ h => h) (v := ?_) ?_ ?_
              rotate_left 1
              · (intro w hSw; (try dsimp only at hSw); (try simp only [List.getElem_toArray, List.getElem_cons_succ, List.getElem_cons_zero]); go_simp) <;> (with_reducible rfl)
              try simp only [List.getElem_toArray, List.getElem_cons_succ, List.getElem_cons_zero, Act.put, List.setIfInBounds_toArray, List.set_cons_zero, List.set_cons_succ]
              refine tk 10 rfl (by kernel_rfl) hHeld (fun _ _ _ h => h) (v := ?_) ?_ ?_
              rotate_left 1
              · (intro w hSw; (try dsimp only at hSw); (try simp only [List.getElem_toArray, List.getElem_cons_succ, List.getElem_cons_zero]); go_simp) <;> (with_reducible rfl)
              try simp only [List.getElem_toArray, List.getElem_cons_succ, List.getElem_cons_zero, Act.put, List.setIfInBounds_toArray, List.set_cons_zero, List.set_cons_succ]
              refine tk 11 rfl (by kernel_rfl) hHeld (fun _ _ _ h => h) (v := ?_) ?_ ?_
              rotate_left 1
              · (intro w hSw; (try dsimp only at hSw); (try simp only [List.getElem_toArray, List.getElem_cons_succ, List.getElem_cons_zero]); go_simp) <;> (with_reducible rfl)
              try simp only [List.getElem_toArray, List.getElem_cons_succ, List.getElem_cons_zero, Act.put, List.setIfInBounds_toArray, List.set_cons_zero, List.set_cons_succ]
              refine tk 12 rfl (by kernel_rfl) hHeld (fun _ _ _ h => h) (v := ?_) ?_ ?_
              rotate_left 1
              · (intro w hSw; (try dsimp only at hSw); (try simp only [List.getElem_toArray, List.getElem_cons_succ, List.getElem_cons_zero]); go_simp) <;> (with_reducible rfl)
              try simp only [List.getElem_toArray, List.getElem_cons_succ, List.getElem_cons_zero, Act.put, List.setIfInBounds_toArray, List.set_cons_zero, List.set_cons_succ]
              refine tk 13 rfl (by kernel_rfl) hHeld (fun _ _ _ h => h) (v := ?_) ?_ ?_
              rotate_left 1
              · (intro w hSw; (try dsimp only at hSw); (try simp only [List.getElem_toArray, List.getElem_cons_succ, List.getElem_cons_zero]); go_simp) <;> (with_reducible rfl)
              try simp only [List.getElem_toArray, List.getElem_cons_succ, List.getElem_cons_zero, Act.put, List.setIfInBounds_toArray, List.set_cons_zero, List.set_cons_succ]
              refine tk 14 rfl (by kernel_rfl) hHeld (fun _ _ _ h => h) (v := ?_) ?_ ?_
              rotate_left 1
              · (intro w hSw; (try dsimp only at hSw); (try simp only [List.getElem_toArray, List.getElem_cons_succ, List.getElem_cons_zero]); go_simp) <;> (with_reducible rfl)
              try simp only [List.getElem_toArray, List.getElem_cons_succ, List.getElem_cons_zero, Act.put, List.setIfInBounds_toArray, List.set_cons_zero, List.set_cons_succ]
              refine tk 15 rfl (by kernel_rfl) hHeld (fun _ _ _ h => h) (v := ?_) ?_ ?_
              rotate_left 1
              · (intro w hSw; (try dsimp only at hSw); (try simp only [List.getElem_toArray, List.getElem_cons_succ, List.getElem_cons_zero]); go_simp) <;> (with_reducible rfl)
              try simp only [List.getElem_toArray, List.getElem_cons_succ, List.getElem_cons_zero, Act.put, List.setIfInBounds_toArray, List.set_cons_zero, List.set_cons_succ]
              refine tk 16 rfl (by kernel_rfl) hHeld (fun _ _ _ h => h) (v := ?_) ?_ ?_
              rotate_left 1
              · (intro w hSw; (try dsimp only at hSw); (try simp only [List.getElem_toArray, List.getElem_cons_succ, List.getElem_cons_zero]); go_simp) <;> (with_reducible rfl)
              try simp only [List.getElem_toArray, List.getElem_cons_succ, List.getElem_cons_zero, Act.put, List.setIfInBounds_toArray, List.set_cons_zero, List.set_cons_succ]
              refine tk 17 rfl (by kernel_rfl) hHeld (fun _ _ _ h => h) (v := ?_) ?_ ?_
              rotate_left 1
              · (intro w hSw; (try dsimp only at hSw); (try simp only [List.getElem_toArray, List.getElem_cons_succ, List.getElem_cons_zero]); go_simp) <;> (with_reducible rfl)
              try simp only [List.getElem_toArray, List.getElem_cons_succ, List.getElem_cons_zero, Act.put, List.setIfInBounds_toArray, List.set_cons_zero, List.set_cons_succ]
              refine wpAnyH_ready (rs := [18]) (by kernel_rfl) (by simp) (AllReadyH.cons rfl (fun K hK => ?_) AllReadyH.nil)
              simp only [List.getElem_toArray, List.getElem_cons_succ, List.getElem_cons_zero]
              go_simp
              have CH110 := ONE.out _ B10.out
              have ba : Below w10.heap.size w10 (w10.alloc (.cells #[.int .i64 3, .int .i64 0, .int .i64 0, .int .i64 (X.length : Int), .int .i64 0, .slice A8 Y.length c8] 29)) := (Below.refl _ _).alloc (Nat.le_refl _) _
              have B110 := B10.out.trans (ba.mono B10.out.size)
              have V110 := heap_old2 w10 (.cells #[.int .i64 3, .int .i64 0, .int .i64 0, .int .i64 (X.length : Int), .int .i64 0, .slice A8 Y.length c8] 29) V10.out
              refine hK.out _ _ (SH.out _ V110) (fun hHeld => ?_)
              clear hK K
              try simp only [List.getElem_toArray, List.getElem_cons_succ, List.getElem_cons_zero, Act.put, List.setIfInBounds_toArray, List.set_cons_zero, List.set_cons_succ]
              obtain ⟨w11, hw11⟩ : ∃ W, w10.alloc (.cells #[.int .i64 3, .int .i64 0, .int .i64 0, .int .i64 (X.length : Int), .int .i64 0, .slice A8 Y.length c8] 29) = W := ⟨_, rfl⟩
              rw [hw11] at CH110 B110 V110 hHeld ba ⊢
              have B11 := Lib.hid B110
              have V11 := Lib.hid V110
              have CH11 := Lib.hid CH110
              clear hw11 CH110 B110 V110
              refine wpAnyH_ready (rs := [19]) (by kernel_rfl) (by simp) (AllReadyH.cons rfl (fun K hK => ?_) AllReadyH.nil)
              simp only [List.getElem_toArray, List.getElem_cons_succ, List.getElem_cons_zero]
              go_simp
              go_at_call 13
              (with_reducible refine (SMW.out _ _ B11.out CH11.out HONE.out).mono ?_)
              rintro e w12 ⟨rfl, m, rfl⟩
              have B12 := Lib.hid (below_drewN B11.out m)
              have V12 : Hid ((w11.drewN m).heap[bx]? = some (.cells #[.int .i64 3, .int .i64 0, .int .i64 0, .int .i64 (X.length : Int), .int .i64 0, .slice A8 Y.length c8] 29 (0, 0))) := Lib.hid V11.out
              try go_wp2_with fail
              refine hK.out _ _ (SH.out _ V12.out) (fun hHeld => ?_)
              clear hK K
              try simp only [List.getElem_toArray, List.getElem_cons_succ, List.getElem_cons_zero, Act.put, List.setIfInBounds_toArray, List.set_cons_zero, List.set_cons_succ]
              refine tk 20 rfl (by kernel_rfl) hHeld (fun _ _ _ h => h) (v := ?_) ?_ ?_
              rotate_left 1
              · (intro w hSw; (try dsimp only at hSw); (try simp only [List.getElem_toArray, List.getElem_cons_succ, List.getElem_cons_zero]); go_simp) <;> (with_reducible rfl)
              try simp only [List.getElem_toArray, List.getElem_cons_succ, List.getElem_cons_zero, Act.put, List.setIfInBounds_toArray, List.set_cons_zero, List.set_cons_succ]
              refine tk 21 rfl (by kernel_rfl) hHeld (fun _ _ _ h => h) (v := ?_) ?_ ?_
              rotate_left 1
              · (intro w hSw; (try dsimp only at hSw); (try simp only [List.getElem_toArray, List.getElem_cons_succ, List.getElem_cons_zero]); go_simp) <;> (with_reducible rfl)
              try simp only [List.getElem_toArray, List.getElem_cons_succ, List.getElem_cons_zero, Act.put, List.setIfInBounds_toArray, List.set_cons_zero, List.set_cons_succ]
              refine tk 22 rfl (by kernel_rfl) hHeld (fun _ _ _ h => h) (v := ?_) ?_ ?_
              rotate_left 1
              · (intro w hSw; (try dsimp only at hSw); (try simp only [List.getElem_toArray, List.getElem_cons_succ, List.getElem_cons_zero]); go_simp) <;> (with_reducible rfl)
              try simp only [List.getElem_toArray, List.getElem_cons_succ, List.getElem_cons_zero, Act.put, List.setIfInBounds_toArray, List.set_cons_zero, List.set_cons_succ]
              refine wpAnyH_ready (rs := [23]) (by kernel_rfl) (by simp) (AllReadyH.cons rfl (fun K hK => ?_) AllReadyH.nil)
              simp only [List.getElem_toArray, List.getElem_cons_succ, List.getElem_cons_zero]
              go_simp
              go_at_call 12
              refine (awake_any _).mono ?_
              rintro e w20 ⟨rfl, b20⟩
              have V20 := (b20.block bx (Nat.lt_of_lt_of_le hbxr7 B12.out.size)).trans V12.out
              try go_wp2_with fail
              refine hK.out _ _ (SH.out _ V20) (fun hHeld => ?_)
              clear hK K
              try simp only [List.getElem_toArray, List.getElem_cons_succ, List.getElem_cons_zero, Act.put, List.setIfInBounds_toArray, List.set_cons_zero, List.set_cons_succ]
              refine tk 24 rfl (by kernel_rfl) hHeld (fun _ _ _ h => h) (v := ?_) ?_ ?_
              rotate_left 1
              · (intro w hSw; (try dsimp only at hSw); (try simp only [List.getElem_toArray, List.getElem_cons_succ, List.getElem_cons_zero]); go_simp) <;> (with_reducible rfl)
              try simp only [List.getElem_toArray, List.getElem_cons_succ, List.getElem_cons_zero, Act.put, List.setIfInBounds_toArray, List.set_cons_zero, List.set_cons_succ]
              refine tk 25 rfl (by kernel_rfl) hHeld (fun _ _ _ h => h) (v := ?_) ?_ ?_
              rotate_left 1
              · (intro w hSw; (try dsimp only at hSw); (try simp only [List.getElem_toArray, List.getElem_cons_succ, List.getElem_cons_zero]); go_simp) <;> (with_reducible rfl)
              try simp only [List.getElem_toArray, List.getElem_cons_succ, List.getElem_cons_zero, Act.put, List.setIfInBounds_toArray, List.set_cons_zero, List.set_cons_succ]
              refine wpAnyH_done (by kernel_rfl) ?_ _
              go_wp2_with fail
              go_ret
              exact ⟨rfl, BW.out.trans ((B12.out.trans (b20.mono B12.out.size)).mono BW.out.size)⟩
          ·
              simp only [List.getElem_toArray, List.getElem_cons_succ, List.getElem_cons_zero]
              go_simp
              have CH80 := ONE.out _ BD.out
              have ba : Below WD.heap.size WD (WD.alloc (.cells #[.int .i64 3, .int .i64 0, .int .i64 0, .int .i64 (X.length : Int), .int .i64 0, .slice A8 Y.length c8] 29)) := (Below.refl _ _).alloc (Nat.le_refl _) _
              have B80 := BD.out.trans (ba.mono BD.out.size)
              have V80 := heap_old2 WD (.cells #[.int .i64 3, .int .i64 0, .int .i64 0, .int .i64 (X.length : Int), .int .i64 0, .slice A8 Y.length c8] 29) VD.out
              refine hK.out _ _ (SH.out _ V80) (fun hHeld => ?_)
              clear hK K
              try simp only [List.getElem_toArray, List.getElem_cons_succ, List.getElem_cons_zero, Act.put, List.setIfInBounds_toArray, List.set_cons_zero, List.set_cons_succ]
              obtain ⟨w8, hw8⟩ : ∃ W, WD.alloc (.cells #[.int .i64 3, .int .i64 0, .int .i64 0, .int .i64 (X.length : Int), .int .i64 0, .slice A8 Y.length c8] 29) = W := ⟨_, rfl⟩
              rw [hw8] at CH80 B80 V80 hHeld ba ⊢
              have B8 := Lib.hid B80
              have V8 := Lib.hid V80
              have CH8 := Lib.hid CH80
              clear hw8 CH80 B80 V80
              refine wpAnyH_ready (rs := [1]) (by kernel_rfl) (by simp) (AllReadyH.cons rfl (fun K hK => ?_) AllReadyH.nil)
              simp only [List.getElem_toArray, List.getElem_cons_succ, List.getElem_cons_zero]
              go_simp
              go_at_call 21
              (with_reducible refine (KX.out _ B8.out).mono ?_)
              rintro e w9 ⟨rfl, b9⟩
              have B9 := Lib.hid (B8.out.trans (b9.mono B8.out.size))
              have V9 := Lib.hid ((b9.block bx (Nat.lt_of_lt_of_le hbxr7 B8.out.size)).trans V8.out)
              have CH9 := Lib.hid ((CH8.out.below b9 (Nat.le_refl _)).more b9.size)
              try go_wp2_with fail
              clear b9
              refine hK.out _ _ (SH.out _ V9.out) (fun hHeld => ?_)
              clear hK K
              try simp only [List.getElem_toArray, List.getElem_cons_succ, List.getElem_cons_zero, Act.put, List.setIfInBounds_toArray, List.set_cons_zero, List.set_cons_succ]
              refine wpAnyH_ready (rs := [4]) (by kernel_rfl) (by simp) (AllReadyH.cons rfl (fun K hK => ?_) AllReadyH.nil)
              simp only [List.getElem_toArray, List.getElem_cons_succ, List.getElem_cons_zero]
              go_simp
              go_at_call 21
              (with_reducible refine (K1.out _ _ CH9.out).mono ?_)
              rintro e w10 ⟨rfl, b9⟩
              have B10 := Lib.hid (B9.out.trans (b9.mono B9.out.size))
              have V10 := Lib.hid ((b9.block bx (Nat.lt_of_lt_of_le hbxr7 B9.out.size)).trans V9.out)
              try go_wp2_with fail
              clear b9
              refine hK.out _ _ (SH.out _ V10.out) (fun hHeld => ?_)
              clear hK K
              try simp only [List.getElem_toArray, List.getElem_cons_succ, List.getElem_cons_zero, Act.put, List.setIfInBounds_toArray, List.set_cons_zero, List.set_cons_succ]
              refine tk 5 rfl (by kernel_rfl) hHeld (fun _ _ _ h => h) (v := ?_) ?_ ?_
              rotate_left 1
              · (intro w hSw; (try dsimp only at hSw); (try simp only [List.getElem_toArray, List.getElem_cons_succ, List.getElem_cons_zero]); go_simp) <;> (with_reducible rfl)
              try simp only [List.getElem_toArray, List.getElem_cons_succ, List.getElem_cons_zero, Act.put, List.setIfInBounds_toArray, List.set_cons_zero, List.set_cons_succ]
              refine tk 6 rfl (by kernel_rfl) hHeld (fun _ _ _ h => h) (v := ?_) ?_ ?_
              rotate_left 1
              · (intro w hSw; (try dsimp only at hSw); (try simp only [List.getElem_toArray, List.getElem_cons_succ, List.getElem_cons_zero]); go_simp) <;> (with_reducible rfl)
              try simp only [List.getElem_toArray, List.getElem_cons_succ, List.getElem_cons_zero, Act.put, List.setIfInBounds_toArray, List.set_cons_zero, List.set_cons_succ]
              refine tk 7 rfl (by kernel_rfl) hHeld (fun _ _ _ h => h) (v := ?_) ?_ ?_
              rotate_left 1
              · (intro w hSw; (try dsimp only at hSw); (try simp only [List.getElem_toArray, List.getElem_cons_succ, List.getElem_cons_zero]); go_simp) <;> (with_reducible rfl)
              try simp only [List.getElem_toArray, List.getElem_cons_succ, List.getElem_cons_zero, Act.put, List.setIfInBounds_toArray, List.set_cons_zero, List.set_cons_succ]
              refine tk 8 rfl (by kernel_rfl) hHeld (fun _ _ _ h => h) (v := ?_) ?_ ?_
              rotate_left 1
              · (intro w hSw; (try dsimp only at hSw); (try simp only [List.getElem_toArray, List.getElem_cons_succ, List.getElem_cons_zero]); go_simp) <;> (with_reducible rfl)
              try simp only [List.getElem_toArray, List.getElem_cons_succ, List.getElem_cons_zero, Act.put, List.setIfInBounds_toArray, List.set_cons_zero, List.set_cons_succ]
              refine tk 9 rfl (by kernel_rfl) hHeld (fun _ _ _ h => h) (v := ?_) ?_ ?_
              rotate_left 1
              · (intro w hSw; (try dsimp only at hSw); (try simp only [List.getElem_toArray, List.getElem_cons_succ, List.getElem_cons_zero]); go_simp) <;> (with_reducible rfl)
              try simp only [List.getElem_toArray, List.getElem_cons_succ, List.getElem_cons_zero, Act.put, List.setIfInBounds_toArray, List.set_cons_zero, List.set_cons_succ]
              refine tk 10 rfl (by kernel_rfl) hHeld (fun _ _ _ h => h) (v := ?_) ?_ ?_
              rotate_left 1
              · (intro w hSw; (try dsimp only at hSw); (try simp only [List.getElem_toArray, List.getElem_cons_succ, List.getElem_cons_zero]); go_simp) <;> (with_reducible rfl)
              try simp only [List.getElem_toArray, List.getElem_cons_succ, List.getElem_cons_zero, Act.put, List.setIfInBounds_toArray, List.set_cons_zero, List.set_cons_succ]
              refine tk 11 rfl (by kernel_rfl) hHeld (fun _ _ _ h => h) (v := ?_) ?_ ?_
              rotate_left 1
              · (intro w hSw; (try dsimp only at hSw); (try simp only [List.getElem_toArray, List.getElem_cons_succ, List.getElem_cons_zero]); go_simp) <;> (with_reducible rfl)
              try simp only [List.getElem_toArray, List.getElem_cons_succ, List.getElem_cons_zero, Act.put, List.setIfInBounds_toArray, List.set_cons_zero, List.set_cons_succ]
              refine tk 12 rfl (by kernel_rfl) hHeld (fun _ _ _ h => h) (v := ?_) ?_ ?_
              rotate_left 1
              · (intro w hSw; (try dsimp only at hSw); (try simp only [List.getElem_toArray, List.getElem_cons_succ, List.getElem_cons_zero]); go_simp) <;> (with_reducible rfl)
              try simp only [List.getElem_toArray, List.getElem_cons_succ, List.getElem_cons_zero, Act.put, List.setIfInBounds_toArray, List.set_cons_zero, List.set_cons_succ]
              refine tk 13 rfl (by kernel_rfl) hHeld (fun _ _ _ h => h) (v := ?_) ?_ ?_
              rotate_left 1
              · (intro w hSw; (try dsimp only at hSw); (try simp only [List.getElem_toArray, List.getElem_cons_succ, List.getElem_cons_zero]); go_simp) <;> (with_reducible rfl)
              try simp only [List.getElem_toArray, List.getElem_cons_succ, List.getElem_cons_zero, Act.put, List.setIfInBounds_toArray, List.set_cons_zero, List.set_cons_succ]
              refine tk 14 rfl (by kernel_rfl) hHeld (fun _ _ _ h => h) (v := ?_) ?_ ?_
              rotate_left 1
              · (intro w hSw; (try dsimp only at hSw); (try simp only [List.getElem_toArray, List.getElem_cons_succ, List.getElem_cons_zero]); go_simp) <;> (with_reducible rfl)
              try simp only [List.getElem_toArray, List.getElem_cons_succ, List.getElem_cons_zero, Act.put, List.setIfInBounds_toArray, List.set_cons_zero, List.set_cons_succ]
              refine tk 15 rfl (by kernel_rfl) hHeld (fun _ _ _ h => h) (v := ?_) ?_ ?_
              rotate_left 1
              · (intro w hSw; (try dsimp only at hSw); (try simp only [List.getElem_toArray, List.getElem_cons_succ, List.getElem_cons_zero]); go_simp) <;> (with_reducible rfl)
              try simp only [List.getElem_toArray, List.getElem_cons_succ, List.getElem_cons_zero, Act.put, List.setIfInBounds_toArray, List.set_cons_zero, List.set_cons_succ]
              refine tk 16 rfl (by kernel_rfl) hHeld (fun _ _ _ h => h) (v := ?_) ?_ ?_
              rotate_left 1
              · (intro w hSw; (try dsimp only at hSw); (try simp only [List.getElem_toArray, List.getElem_cons_succ, List.getElem_cons_zero]); go_simp) <;> (with_reducible rfl)
              try simp only [List.getElem_toArray, List.getElem_cons_succ, List.getElem_cons_zero, Act.put, List.setIfInBounds_toArray, List.set_cons_zero, List.set_cons_succ]
              refine tk 17 rfl (by kernel_rfl) hHeld (fun _ _ _ h => h) (v := ?_) ?_ ?_
              rotate_left 1
              · (intro w hSw; (try dsimp only at hSw); (try simp only [List.getElem_toArray, List.getElem_cons_succ, List.getElem_cons_zero]); go_simp) <;> (with_reducible rfl)
              try simp only [List.getElem_toArray, List.getElem_cons_succ, List.getElem_cons_zero, Act.put, List.setIfInBounds_toArray, List.set_cons_zero, List.set_cons_succ]
              refine wpAnyH_ready (rs := [18]) (by kernel_rfl) (by simp) (AllReadyH.cons rfl (fun K hK => ?_) AllReadyH.nil)
              simp only [List.getElem_toArray, List.getElem_cons_succ, List.getElem_cons_zero]
              go_simp
              have CH110 := ONE.out _ B10.out
              have ba : Below w10.heap.size w10 (w10.alloc (.cells #[.int .i64 3, .int .i64 0, .int .i64 0, .int .i64 (X.length : Int), .int .i64 0, .slice A8 Y.length c8] 29)) := (Below.refl _ _).alloc (Nat.le_refl _) _
              have B110 := B10.out.trans (ba.mono B10.out.size)
              have V110 := heap_old2 w10 (.cells #[.int .i64 3, .int .i64 0, .int .i64 0, .int .i64 (X.length : Int), .int .i64 0, .slice A8 Y.length c8] 29) V10.out
              refine hK.out _ _ (SH.out _ V110) (fun hHeld => ?_)
              clear hK K
              try simp only [List.getElem_toArray, List.getElem_cons_succ, List.getElem_cons_zero, Act.put, List.setIfInBounds_toArray, List.set_cons_zero, List.set_cons_succ]
              obtain ⟨w11, hw11⟩ : ∃ W, w10.alloc (.cells #[.int .i64 3, .int .i64 0, .int .i64 0, .int .i64 (X.length : Int), .int .i64 0, .slice A8 Y.length c8] 29) = W := ⟨_, rfl⟩
              rw [hw11] at CH110 B110 V110 hHeld ba ⊢
              have B11 := Lib.hid B110
              have V11 := Lib.hid V110
              have CH11 := Lib.hid CH110
              clear hw11 CH110 B110 V110
              refine wpAnyH_ready (rs := [19]) (by kernel_rfl) (by simp) (AllReadyH.cons rfl (fun K hK => ?_) AllReadyH.nil)
              simp only [List.getElem_toArray, List.getElem_cons_succ, List.getElem_cons_zero]
              go_simp
              go_at_call 13
              (with_reducible refine (SMW.out _ _ B11.out CH11.out HONE.out).mono ?_)
              rintro e w12 ⟨rfl, m, rfl⟩
              have B12 := Lib.hid (below_drewN B11.out m)
              have V12 : Hid ((w11.drewN m).heap[bx]? = some (.cells #[.int .i64 3, .int .i64 0, .int .i64 0, .int .i64 (X.length : Int), .int .i64 0, .slice A8 Y.length c8] 29 (0, 0))) := Lib.hid V11.out
              try go_wp2_with fail
              refine hK.out _ _ (SH.out _ V12.out) (fun hHeld => ?_)
              clear hK K
              try simp only [List.getElem_toArray, List.getElem_cons_succ, List.getElem_cons_zero, Act.put, List.setIfInBounds_toArray, List.set_cons_zero, List.set_cons_succ]
              refine tk 20 rfl (by kernel_rfl) hHeld (fun _ _ _ h => h) (v := ?_) ?_ ?_
              rotate_left 1
              · (intro w hSw; (try dsimp only at hSw); (try simp only [List.getElem_toArray, List.getElem_cons_succ, List.getElem_cons_zero]); go_simp) <;> (with_reducible rfl)
              try simp only [List.getElem_toArray, List.getElem_cons_succ, List.getElem_cons_zero, Act.put, List.setIfInBounds_toArray, List.set_cons_zero, List.set_cons_succ]
              refine tk 21 rfl (by kernel_rfl) hHeld (fun _ _ _ h => h) (v := ?_) ?_ ?_
              rotate_left 1
              · (intro w hSw; (try dsimp only at hSw); (try simp only [List.getElem_toArray, List.getElem_cons_succ, List.getElem_cons_zero]); go_simp) <;> (with_reducible rfl)
              try simp only [List.getElem_toArray, List.getElem_cons_succ, List.getElem_cons_zero, Act.put, List.setIfInBounds_toArray, List.set_cons_zero, List.set_cons_succ]
              refine tk 22 rfl (by kernel_rfl) hHeld (fun _ _ _ h => h) (v := ?_) ?_ ?_
              rotate_left 1
              · (intro w hSw; (try dsimp only at hSw); (try simp only [List.getElem_toArray, List.getElem_cons_succ, List.getElem_cons_zero]); go_simp) <;> (with_reducible rfl)
              try simp only [List.getElem_toArray, List.getElem_cons_succ, List.getElem_cons_zero, Act.put, List.setIfInBounds_toArray, List.set_cons_zero, List.set_cons_succ]
              refine wpAnyH_ready (rs := [23]) (by kernel_rfl) (by simp) (AllReadyH.cons rfl (fun K hK => ?_) AllReadyH.nil)
              simp only [List.getElem_toArray, List.getElem_cons_succ, List.getElem_cons_zero]
              go_simp
              go_at_call 12
              refine (awake_any _).mono ?_
              rintro e w20 ⟨rfl, b20⟩
              have V20 := (b20.block bx (Nat.lt_of_lt_of_le hbxr7 B12.out.size)).trans V12.out
              try go_wp2_with fail
              refine hK.out _ _ (SH.out _ V20) (fun hHeld => ?_)
              clear hK K
              try simp only [List.getElem_toArray, List.getElem_cons_succ, List.getElem_cons_zero, Act.put, List.setIfInBounds_toArray, List.set_cons_zero, List.set_cons_succ]
              refine tk 24 rfl (by kernel_rfl) hHeld (fun _ _ _ h => h) (v := ?_) ?_ ?_
              rotate_left 1
              · (intro w hSw; (try dsimp only at hSw); (try simp only [List.getElem_toArray, List.getElem_cons_succ, List.getElem_cons_zero]); go_simp) <;> (with_reducible rfl)
              try simp only [List.getElem_toArray, List.getElem_cons_succ, List.getElem_cons_zero, Act.put, List.setIfInBounds_toArray, List.set_cons_zero, List.set_cons_succ]
              refine tk 25 rfl (by kernel_rfl) hHeld (fun _ _ _ h => h) (v := ?_) ?_ ?_
              rotate_left 1
              · (intro w hSw; (try dsimp only at hSw); (try simp only [List.getElem_toArray, List.getElem_cons_succ, List.getElem_cons_zero]); go_simp) <;> (with_reducible rfl)
              try simp only [List.getElem_toArray, List.getElem_cons_succ, List.getElem_cons_zero, Act.put, List.setIfInBounds_toArray, List.set_cons_zero, List.set_cons_succ]
              refine wpAnyH_done (by kernel_rfl) ?_ _
              go_wp2_with fail
              go_ret
              exact ⟨rfl, BW.out.trans ((B12.out.trans (b20.mono B12.out.size)).mono BW.out.size)⟩
end Go.Proofs.Yteakiielcmgkeaa
