/-
  The law Prefix of layer 44. By an AI agent.
-/
import Derived.Test.YtfjkelngdljikaaPd
namespace Go.Proofs.Ytfjkelngdljikaa
set_option linter.unusedVariables false
set_option linter.unusedSimpArgs false
open Go.RowKit Go.Joins Go.Deep

theorem Q.Qm.hq_eta (q : Q.Qm) : q = ⟨q.clock, q.rate, q.sp, ⟨⟨q.cur.u.words, q.cur.u.chs, q.cur.u.cl, q.cur.u.af, q.cur.u.up⟩, q.cur.aw, q.cur.cw, q.cur.ac, q.cur.cc⟩, q.be, q.en, q.items, q.ai, q.ci⟩ := rfl
namespace Q
theorem UsIn.on' {W W' : World} {A : Option Addr} {l : List Um} (h : UsIn W W.heap.size A l) (hb : Below W.heap.size W W') : UsIn W' W'.heap.size A l := (h.below hb (Nat.le_refl _)).more hb.size
theorem right_len {a : Qa} (h : Q.right a = 1) : a.items.length ≤ 8 := by
  unfold Q.right at h
  split at h
  · rename_i h1; exact (gr_zero h1.2.1).1
  · cases h
/-- A block of another type is not the row's. -/
theorem not_row {W : World} {base T n : Nat} {v : Value} {xs : List Value} {C : Array Value} (h : W.ownsRow base 25 5 v n xs) (hT : W.heap[T]? = some (.cells C 28 (0, 0))) (e : v.ownBlock = some T) : False := by
  obtain ⟨cur, h1⟩ := own_type h e
  rw [h1] at hT
  injection hT with hT
  injection hT with _ hT _
  exact absurd hT (by decide)
end Q
set_option maxRecDepth 100000 in
set_option maxHeartbeats 4000000 in
theorem prefixlaw_any (q : Q.Qm) (A : Option Addr) (c : Nat) (us : List Q.Um) (x1 : Int) (w : World) (hq : Q.QGood w q) (hu : Q.UsIn w w.heap.size A us) (huf : ∀ m ∈ us, m.u.Fits) (hul : us.length ≤ maxLen) (huc : us.length ≤ c) (h1 : 0 ≤ x1) (h2 : x1 ≤ 4294967295):
    Calls Try.prog 9 #[.agg q.cells.toArray, .slice A us.length c, .int .u32 x1] w fun e w' => e = .returned (.bool true) ∧ Below w.heap.size w w' := by
  have b0 := below_box w (.cells q.cells.toArray 28)
  have H0 := Q.HQ.new (W := w) (q := q) rfl hq.i
  have RT := Q.right_hq H0.i hq.len hq.fits hq.cur
  have AWK := Lib.hid awake_any
  rcases Q.right_cases q.a with hr | ⟨hr, hc, hs⟩
  case inl =>
    rw [hr] at RT
    have k := Q.hq_cells (q.hq_eta ▸ H0)
    have B0 := Lib.hid b0
    obtain ⟨ck, rt, sp, ⟨⟨p0, p1, p2, p3, p4⟩, a0, c0, a1, c1⟩, be, en, it, ai, ci⟩ := q
    simp only [Q.Qm.cells] at RT B0 k ⊢
    obtain ⟨k0, k1, k2, k3, k4, k5, k6, k7, k8, k9, k10⟩ := k
    replace RT := Lib.hid RT
    clear hq H0 b0 hr hu huf hul huc h1 h2
    go_enter Try.func9, Try.ntmps9
    go_wp2_with (first
      | (go_at_call 11; refine RT.out.mono ?_; clear RT; rintro e w1 ⟨rfl, b1⟩; (have B1 := Lib.hid (B0.out.trans (b1.mono B0.out.size))))
      | (go_at_call 13; refine (AWK.out _).mono ?_; rintro e w2 ⟨rfl, b2⟩))
    go_ret
    exact ⟨rfl, B1.out.trans (b2.mono B1.out.size)⟩
  rw [hr] at RT
  have hl8 := Q.right_len hr
  have gv := Q.gr_vals (us.map (·.u))
  have GR := fun (W : World) (hb : Below w.heap.size w W) => great_any A c W.heap.size us W (hu.on' hb) hul huf
  obtain ⟨g, hg⟩ : ∃ g, Q.gr (us.map (·.u)) = g := ⟨_, rfl⟩
  rw [hg] at GR gv
  replace GR := Lib.hid GR
  have HU := Lib.hid hu
  have HQ0 := Lib.hid H0
  have B0 := Lib.hid b0
  rcases gv with rfl | rfl
  case inr =>
    obtain ⟨ck, rt, sp, ⟨⟨p0, p1, p2, p3, p4⟩, a0, c0, a1, c1⟩, be, en, it, ai, ci⟩ := q
    obtain ⟨k0, k1, k2, k3, k4, k5, k6, k7, k8, k9, k10⟩ := Q.hq_cells H0
    simp only [Q.Qm.cells] at RT B0 HQ0 k0 k1 k2 k3 k4 k5 k6 k7 k8 k9 k10 ⊢
    replace RT := Lib.hid RT
    clear hq H0 b0 hr hs hc hg hu huf hul huc h1 h2 hl8
    go_enter Try.func9, Try.ntmps9
    go_wp2_with (first
      | (go_at_call 11; (refine RT.out.mono ?_); (clear RT); (rintro e w1 ⟨rfl, b1⟩); (have H1 := HQ0.out.below b1); (obtain ⟨ka0, ka1, ka2, ka3, ka4, ka5, ka6, ka7, ka8, ka9, ka10⟩ := Q.hq_cells H1); (have B1 := Lib.hid (B0.out.trans (b1.mono B0.out.size))); (have HQ1 := Lib.hid H1); (clear b1 H1 k0 k1 k2 k3 k4 k5 k6 k7 k8 k9 k10))
      | (go_at_call 12; (refine (GR.out _ B1.out).mono ?_); (clear GR); (rintro e w2 ⟨rfl, rfl⟩))
      | (go_at_call 13; (refine (AWK.out _).mono ?_); (rintro e wE ⟨rfl, bE⟩); (have BE := Lib.hid (B1.out.trans (bE.mono B1.out.size))); (clear bE)))
    go_ret
    exact ⟨rfl, BE.out⟩
  have hz := Q.gr_zero hg
  by_cases hM : 1082331758592 < q.clock
  · have gM : decide (1082331758592 < q.clock) = true := decide_eq_true hM
    obtain ⟨ck, rt, sp, ⟨⟨p0, p1, p2, p3, p4⟩, a0, c0, a1, c1⟩, be, en, it, ai, ci⟩ := q
    obtain ⟨k0, k1, k2, k3, k4, k5, k6, k7, k8, k9, k10⟩ := Q.hq_cells H0
    simp only [Q.Qm.cells] at gM RT B0 HQ0 k0 k1 k2 k3 k4 k5 k6 k7 k8 k9 k10 ⊢
    replace RT := Lib.hid RT
    clear hq H0 b0 hr hs hc hM hg hu huf hul huc h1 h2 hl8 hz
    go_enter Try.func9, Try.ntmps9
    go_wp2_with (first
      | (go_at_call 11; (refine RT.out.mono ?_); (clear RT); (rintro e w1 ⟨rfl, b1⟩); (have H1 := HQ0.out.below b1); (obtain ⟨ka0, ka1, ka2, ka3, ka4, ka5, ka6, ka7, ka8, ka9, ka10⟩ := Q.hq_cells H1); (have B1 := Lib.hid (B0.out.trans (b1.mono B0.out.size))); (have HQ1 := Lib.hid H1); (clear b1 H1 k0 k1 k2 k3 k4 k5 k6 k7 k8 k9 k10))
      | (go_at_call 12; (refine (GR.out _ B1.out).mono ?_); (clear GR); (rintro e w2 ⟨rfl, rfl⟩))
      | (go_at_call 13; (refine (AWK.out _).mono ?_); (rintro e wE ⟨rfl, bE⟩); (have BE := Lib.hid (B1.out.trans (bE.mono B1.out.size))); (clear bE)))
    go_ret
    exact ⟨rfl, BE.out⟩
  have gM : decide (1082331758592 < q.clock) = false := decide_eq_false hM
  obtain ⟨X1, n, hX⟩ : ∃ X1 n, Q.rep q.a (q.a.items ++ us.map (·.u)) = (X1, n) := ⟨_, _, rfl⟩
  have hsm : ∀ u ∈ q.a.items ++ us.map (·.u), Q.Small u := fun u hu' => by
    rcases List.mem_append.1 hu' with h | h
    · exact hs.2.2 u h
    · exact hz.2 u h
  have hlen : (q.a.items ++ us.map (·.u)).length ≤ 16 := by rw [List.length_append]; have := hz.1; omega
  have hli : q.items.length ≤ 8 := by simpa [Q.Qm.a] using hl8
  have hlu : us.length ≤ 8 := by simpa using hz.1
  obtain ⟨XS_, FR⟩ := Q.pre_facts hX hc hs hlen hsm rfl
  have XS := Lib.hid XS_
  have RP := fun (W : World) (A' : Option Addr) (c' : Nat) (h : Q.QIn W W.heap.size q) (hu' : Q.UsIn W W.heap.size A' (q.items ++ us)) (hcap : q.items.length + us.length ≤ c') =>
    replace_any q A' c' W.heap.size (q.items ++ us) W h hu' (by rw [List.length_append]; exact hcap) (Nat.le_refl _) hs (by rw [List.length_append]; omega) (fun m hm => by
      rcases List.mem_append.1 hm with h | h
      · exact hs.2.2 _ (List.mem_map.2 ⟨m, h, rfl⟩)
      · exact hz.2 _ (List.mem_map.2 ⟨m, h, rfl⟩))
  have hmm : (q.items ++ us).map (·.u) = q.a.items ++ us.map (·.u) := by rw [List.map_append]; rfl
  rw [hmm, hX] at RP
  simp only [List.length_append] at RP
  have hck := (Q.chk_proper hc).ck
  simp only [Q.Qm.a] at hck
  obtain ⟨t2, ht2⟩ : ∃ t2, q.clock + x1 = t2 := ⟨_, rfl⟩
  have w1_ : IntKind.i64.wrap x1 = x1 := by simp [IntKind.wrap, IntKind.bits, IntKind.signed]; omega
  have w2_ : IntKind.i64.wrap (q.clock + x1) = t2 := by simp [IntKind.wrap, IntKind.bits, IntKind.signed]; omega
  have hA := Q.advR_ok (a := q.a) (time := t2) hck.1 (show q.clock ≤ t2 by omega) (by omega)
  have AD1 := fun (W : World) (h : Q.QIn W W.heap.size q) => Q.advance_hq t2 h hs hc
  rw [hA] at AD1
  have XL := Lib.hid (Q.adv_say_len (time := t2) hs)
  have XR := Lib.hid (Q.adv_say_small (time := t2) hs)
  have SM := Lib.hid hs
  have CK := Lib.hid hc
  have HT2 := Lib.hid ht2
  have XT := Lib.hid (And.intro h1 (And.intro h2 hck.1))
  obtain ⟨iU, hiU, hU0, hU1, hU2⟩ := info_parts infoU
  have HIQ := Lib.hid infoQ
  obtain ⟨ck, rt, sp, ⟨⟨p0, p1, p2, p3, p4⟩, a0, c0, a1, c1⟩, be, en, it, ai, ci⟩ := q
  obtain ⟨k0, k1, k2, k3, k4, k5, k6, k7, k8, k9, k10⟩ := Q.hq_cells H0
  simp only [Q.Qm.cells] at gM RT RP AD1 B0 HQ0 w2_ hli k0 k1 k2 k3 k4 k5 k6 k7 k8 k9 k10 ⊢
  replace RT := Lib.hid RT
  replace RP := Lib.hid RP
  replace AD1 := Lib.hid AD1
  clear hq H0 b0 hr hs hc hM hg hu huf hul huc h1 h2 hl8 hz hX hsm hlen XS_ hmm hck hA ht2
  go_enter Try.func9, Try.ntmps9
  go_wp2_with (first
    | (go_at_call 11; (refine RT.out.mono ?_); (clear RT); (rintro e w1 ⟨rfl, b1⟩); (have H1 := HQ0.out.below b1); (obtain ⟨ka0, ka1, ka2, ka3, ka4, ka5, ka6, ka7, ka8, ka9, ka10⟩ := Q.hq_cells H1); (have B1 := Lib.hid (B0.out.trans (b1.mono B0.out.size))); (have HQ1 := Lib.hid H1); (clear b1 H1 k0 k1 k2 k3 k4 k5 k6 k7 k8 k9 k10))
    | (go_at_call 12; (refine (GR.out _ B1.out).mono ?_); (clear GR); (rintro e w2 ⟨rfl, rfl⟩)))
  refine wp_cut (fun a' wx => ∃ (y30 y31 y32 y33 y34 y35 y36 y37 y38 y39 y40 : Value) (T : Nat) (q5 : Q.Qm), q5.a = X1 ∧ Q.HQ wx T q5 ∧ Below w1.heap.size w1 wx ∧ a' = { tmps := #[.agg #[.int .i64 ck, .int .i64 rt, .bool sp, .slice a0 p0.length c0, .slice a1 p1.length c1, .int .i64 p2, .int .i64 p3, .int .i64 p4, .int .i64 be, .int .i64 en, .slice ai it.length ci], .slice A us.length c, .int .u32 x1, .pointer (some ⟨w.heap.size, 0, none⟩), undef, undef, .bool false, .pointer (some ⟨T, 0, none⟩), .int .i64 n, undef, undef, undef, undef, undef, undef, undef, .agg #[.int .i64 ck, .int .i64 rt, .bool sp, .slice a0 p0.length c0, .slice a1 p1.length c1, .int .i64 p2, .int .i64 p3, .int .i64 p4, .int .i64 be, .int .i64 en, .slice ai it.length ci], .int .i64 1, .bool false, .bool false, .slice A us.length c, .int .i64 0, .bool false, .bool false, .bool false, .pointer (some ⟨w.heap.size, 0, none⟩), .int .i64 ck, .bool false, .bool false, undef, y30, y31, y32, y33, y34, y35, y36, y37, y38, y39, y40, undef, undef, undef, undef, undef, undef, undef, undef, undef, undef, undef, undef, undef, undef, undef, undef, undef, undef, undef, undef, undef, undef, undef, undef, undef, undef, undef, undef, undef, undef, undef, undef, undef, undef, undef, undef, undef, undef, undef, undef, undef, undef, undef, undef, undef, undef, undef, undef, undef, undef, undef, undef, undef], defers := [] }) ?first ?rest
  case first =>
    have CELL : Hid (∀ W : World, Below w1.heap.size w1 W → (W.cell? ⟨w.heap.size, 0, none⟩ = some (.int .i64 ck) ∧ W.cell? ⟨w.heap.size, 1, none⟩ = some (.int .i64 rt) ∧ W.cell? ⟨w.heap.size, 2, none⟩ = some (.bool sp) ∧ W.cell? ⟨w.heap.size, 3, none⟩ = some (.slice a0 p0.length c0) ∧ W.cell? ⟨w.heap.size, 4, none⟩ = some (.slice a1 p1.length c1) ∧ W.cell? ⟨w.heap.size, 5, none⟩ = some (.int .i64 p2) ∧ W.cell? ⟨w.heap.size, 6, none⟩ = some (.int .i64 p3) ∧ W.cell? ⟨w.heap.size, 7, none⟩ = some (.int .i64 p4) ∧ W.cell? ⟨w.heap.size, 8, none⟩ = some (.int .i64 be) ∧ W.cell? ⟨w.heap.size, 9, none⟩ = some (.int .i64 en) ∧ W.cell? ⟨w.heap.size, 10, none⟩ = some (.slice ai it.length ci))) := Lib.hid (fun W hb => Q.hq_cells (HQ1.out.below hb))
    have USB := Lib.hid (fun (W : World) (hb : Below w1.heap.size w1 W) => HU.out.on' (B1.out.trans (hb.mono B1.out.size)))
    refine wp_region_held_drew (S := fun w' => w'.cell? ⟨w.heap.size, 0, none⟩ = some (.int .i64 ck) ∧ w'.cell? ⟨w.heap.size, 1, none⟩ = some (.int .i64 rt) ∧ w'.cell? ⟨w.heap.size, 2, none⟩ = some (.bool sp) ∧ w'.cell? ⟨w.heap.size, 3, none⟩ = some (.slice a0 p0.length c0) ∧ w'.cell? ⟨w.heap.size, 4, none⟩ = some (.slice a1 p1.length c1) ∧ w'.cell? ⟨w.heap.size, 5, none⟩ = some (.int .i64 p2) ∧ w'.cell? ⟨w.heap.size, 6, none⟩ = some (.int .i64 p3) ∧ w'.cell? ⟨w.heap.size, 7, none⟩ = some (.int .i64 p4) ∧ w'.cell? ⟨w.heap.size, 8, none⟩ = some (.int .i64 be) ∧ w'.cell? ⟨w.heap.size, 9, none⟩ = some (.int .i64 en) ∧ w'.cell? ⟨w.heap.size, 10, none⟩ = some (.slice ai it.length ci)) (by kernel_rfl) (CELL.out _ (Below.refl _ w1).drew) (fun hHeld => ?_)
    obtain ⟨wd, hwd⟩ : ∃ wd, w1.drew = wd := ⟨_, rfl⟩
    have bwd : Hid (Below w1.heap.size w1 wd) := Lib.hid (by rw [← hwd]; exact (Below.refl _ w1).drew)
    rw [hwd] at hHeld ⊢
    clear hwd ka0 ka1 ka2 ka3 ka4 ka5 ka6 ka7 ka8 ka9 ka10
    refine tk 0 rfl (by kernel_rfl) hHeld (fun _ _ _ h => h) (v := ?_) ?_ ?_
    rotate_left 1
    · (intro w hSw; (try dsimp only at hSw); (try simp only [List.getElem_toArray, List.getElem_cons_succ, List.getElem_cons_zero]); go_simp) <;> (with_reducible rfl)
    try simp only [List.getElem_toArray, List.getElem_cons_succ, List.getElem_cons_zero, Act.put, List.setIfInBounds_toArray, List.set_cons_zero, List.set_cons_succ]
    refine tk 2 rfl (by kernel_rfl) hHeld (fun _ _ _ h => h) (v := ?_) ?_ ?_
    rotate_left 1
    · (intro w hSw; (try dsimp only at hSw); (try simp only [List.getElem_toArray, List.getElem_cons_succ, List.getElem_cons_zero]); go_simp) <;> (with_reducible rfl)
    try simp only [List.getElem_toArray, List.getElem_cons_succ, List.getElem_cons_zero, Act.put, List.setIfInBounds_toArray, List.set_cons_zero, List.set_cons_succ]
    refine tk 3 rfl (by kernel_rfl) hHeld (fun _ _ _ h => h) (v := ?_) ?_ ?_
    rotate_left 1
    · (intro w hSw; (try dsimp only at hSw); (try simp only [List.getElem_toArray, List.getElem_cons_succ, List.getElem_cons_zero]); go_simp) <;> (with_reducible rfl)
    try simp only [List.getElem_toArray, List.getElem_cons_succ, List.getElem_cons_zero, Act.put, List.setIfInBounds_toArray, List.set_cons_zero, List.set_cons_succ]
    refine tk 5 rfl (by kernel_rfl) hHeld (fun _ _ _ h => h) (v := ?_) ?_ ?_
    rotate_left 1
    · (intro w hSw; (try dsimp only at hSw); (try simp only [List.getElem_toArray, List.getElem_cons_succ, List.getElem_cons_zero]); go_simp) <;> (with_reducible rfl)
    try simp only [List.getElem_toArray, List.getElem_cons_succ, List.getElem_cons_zero, Act.put, List.setIfInBounds_toArray, List.set_cons_zero, List.set_cons_succ]
    refine wpAnyH_ready (rs := [1, 11]) (by kernel_rfl) (by simp) ?_
    refine AllReadyH.cons rfl (fun K hK => ?_) ?_
    · simp only [List.getElem_toArray, List.getElem_cons_succ, List.getElem_cons_zero]
      go_simp
      have bx1 : Hid (Below w1.heap.size w1 (wd.alloc (.cells #[] 25))) := Lib.hid (bwd.out.trans ((below_box wd (.cells #[] 25)).mono bwd.out.size))
      have ow1 := Lib.hid (World.ownsRow_lit (base := w1.heap.size) (e := 25) (size := 5) wd #[] 0 bwd.out.size (by decide) rfl)
      obtain ⟨wx1, hwx1⟩ : ∃ W, wd.alloc (.cells #[] 25) = W := ⟨_, rfl⟩
      refine hK.out _ _ (CELL.out _ bx1.out) (fun hHeld => ?_)
      clear hK K
      try simp only [List.getElem_toArray, List.getElem_cons_succ, List.getElem_cons_zero, Act.put, List.setIfInBounds_toArray, List.set_cons_zero, List.set_cons_succ]
      rw [hwx1] at bx1 hHeld ow1 ⊢
      clear hwx1
      refine wpAnyH_ready (rs := [4, 11]) (by kernel_rfl) (by simp) ?_
      refine AllReadyH.cons rfl (fun K hK => ?_) ?_
      · refine step_append_any _ rfl (.tmp 32) (.tmp 34) 26 rfl w1.heap.size 25 iU _ 5 72 Try.underlying26 hiU hU0 hU1 hU2 rfl (by omega) (.slice (some ⟨wd.heap.size, 0, none⟩) 0 0) 0 [] rfl ow1.out _ ai it.length _ _ rfl ((HQ1.out.below bx1.out).i.items.row) (Q.ucs_one _) (by simp only [maxLen]; omega) (by omega) bx1.out.size ?_
        intro v2 wx2 hown2 hg2 _
        simp only [Nat.zero_add, List.nil_append] at hown2
        have bx2 : Hid (Below w1.heap.size w1 wx2) := Lib.hid (bx1.out.trans (Q.below_turn bx1.out.size hg2 (fun r e => (ow1.out.lt r e).1)))
        obtain ⟨A2, c2, rfl, _, hc2⟩ := own_reads_cap hown2
        have ow2 := Lib.hid hown2
        have hcc2 := Lib.hid hc2
        clear hown2 hg2 hc2
        refine hK.out _ _ (CELL.out _ bx2.out) (fun hHeld => ?_)
        clear hK K
        try simp only [List.getElem_toArray, List.getElem_cons_succ, List.getElem_cons_zero, Act.put, List.setIfInBounds_toArray, List.set_cons_zero, List.set_cons_succ]
        refine wpAnyH_ready (rs := [6, 11]) (by kernel_rfl) (by simp) ?_
        refine AllReadyH.cons rfl (fun K hK => ?_) ?_
        · refine step_append_any _ rfl (.tmp 35) (.tmp 36) 26 rfl w1.heap.size 25 iU _ 5 72 Try.underlying26 hiU hU0 hU1 hU2 rfl (by omega) (.slice A2 it.length c2) it.length (Q.ucs it) rfl ow2.out _ A us.length _ _ rfl (USB.out _ bx2.out).row (Q.ucs_one _) (by simp only [maxLen]; omega) (by omega) bx2.out.size ?_
          intro v3 wx3 hown3 hg3 _
          have bx3 : Hid (Below w1.heap.size w1 wx3) := Lib.hid (bx2.out.trans (Q.below_turn bx2.out.size hg3 (fun r e => (ow2.out.lt r e).1)))
          obtain ⟨A3, c3, rfl, _, hc3⟩ := own_reads_cap hown3
          have ow3 := Lib.hid hown3
          have hcc3 := Lib.hid hc3
          clear hown3 hg3 hc3
          refine hK.out _ _ (CELL.out _ bx3.out) (fun hHeld => ?_)
          clear hK K
          try simp only [List.getElem_toArray, List.getElem_cons_succ, List.getElem_cons_zero, Act.put, List.setIfInBounds_toArray, List.set_cons_zero, List.set_cons_succ]
          refine wpAnyH_ready (rs := [7, 11]) (by kernel_rfl) (by simp) ?_
          refine AllReadyH.cons rfl (fun K hK => ?_) ?_
          · simp only [List.getElem_toArray, List.getElem_cons_succ, List.getElem_cons_zero]
            go_simp
            go_at_call 14
            refine (RP.out wx3 A3 c3 (HQ1.out.below bx3.out).i (Q.us_own (c := c3) (by rw [show Q.ucs (it ++ us) = Q.ucs it ++ Q.ucs us from by simp [Q.ucs]]; exact ow3.out) (by rw [List.length_append]) (fun m hm => by rcases List.mem_append.1 hm with hm | hm; exact (HQ1.out.below bx3.out).i.items.el m hm; exact (USB.out _ bx3.out).el m hm)) hcc3.out).mono ?_
            rintro e wx4 ⟨⟨ck5, rt5, sp5, ⟨⟨p05, p15, p25, p35, p45⟩, a05, c05, a15, c15⟩, be5, en5, it5, ai5, ci5⟩, rfl, e5, o5, b5⟩
            try go_wp2_with fail
            have bx4 : Hid (Below w1.heap.size w1 wx4) := Lib.hid (bx3.out.trans (b5.mono bx3.out.size))
            have E5 := Lib.hid e5
            have QO5 := Lib.hid o5
            clear e5 o5 b5
            refine hK.out _ _ (CELL.out _ bx4.out) (fun hHeld => ?_)
            clear hK K
            try simp only [List.getElem_toArray, List.getElem_cons_succ, List.getElem_cons_zero, Act.put, List.setIfInBounds_toArray, List.set_cons_zero, List.set_cons_succ]
            simp only [Q.Qm.cells]
            refine tk 8 rfl (by kernel_rfl) hHeld (fun _ _ _ h => h) (v := ?_) ?_ ?_
            rotate_left 1
            · (intro w hSw; (try dsimp only at hSw); (try simp only [List.getElem_toArray, List.getElem_cons_succ, List.getElem_cons_zero]); go_simp) <;> (with_reducible rfl)
            try simp only [List.getElem_toArray, List.getElem_cons_succ, List.getElem_cons_zero, Act.put, List.setIfInBounds_toArray, List.set_cons_zero, List.set_cons_succ]
            refine tk 9 rfl (by kernel_rfl) hHeld (fun _ _ _ h => h) (v := ?_) ?_ ?_
            rotate_left 1
            · (intro w hSw; (try dsimp only at hSw); (try simp only [List.getElem_toArray, List.getElem_cons_succ, List.getElem_cons_zero]); go_simp) <;> (with_reducible rfl)
            try simp only [List.getElem_toArray, List.getElem_cons_succ, List.getElem_cons_zero, Act.put, List.setIfInBounds_toArray, List.set_cons_zero, List.set_cons_succ]
            refine tk 10 rfl (by kernel_rfl) hHeld (fun _ _ _ h => h) (v := ?_) ?_ ?_
            rotate_left 1
            · (intro w hSw; (try dsimp only at hSw); (try simp only [List.getElem_toArray, List.getElem_cons_succ, List.getElem_cons_zero]); go_simp) <;> (with_reducible rfl)
            try simp only [List.getElem_toArray, List.getElem_cons_succ, List.getElem_cons_zero, Act.put, List.setIfInBounds_toArray, List.set_cons_zero, List.set_cons_succ]
            refine wpAnyH_ready (rs := [11]) (by kernel_rfl) (by simp) ?_
            refine AllReadyH.cons rfl (fun K hK => ?_) ?_
            · simp only [List.getElem_toArray, List.getElem_cons_succ, List.getElem_cons_zero]
              go_simp
              have bx5 : Hid (Below w1.heap.size w1 (wx4.alloc (.cells #[.int .i64 0, .int .i64 0, .bool false, .slice none 0 0, .slice none 0 0, .int .i64 0, .int .i64 0, .int .i64 0, .int .i64 0, .int .i64 0, .slice none 0 0] 28))) := Lib.hid (bx4.out.trans ((below_box wx4 (.cells #[.int .i64 0, .int .i64 0, .bool false, .slice none 0 0, .slice none 0 0, .int .i64 0, .int .i64 0, .int .i64 0, .int .i64 0, .int .i64 0, .slice none 0 0] 28)).mono bx4.out.size))
              have vt5 := Lib.hid (new_block wx4 #[.int .i64 0, .int .i64 0, .bool false, .slice none 0 0, .slice none 0 0, .int .i64 0, .int .i64 0, .int .i64 0, .int .i64 0, .int .i64 0, .slice none 0 0] 28 rfl)
              have ht5 : Hid (w1.heap.size ≤ wx4.heap.size) := Lib.hid bx4.out.size
              have qo5 := Lib.hid (QO5.out.under (below_box wx4 (.cells #[.int .i64 0, .int .i64 0, .bool false, .slice none 0 0, .slice none 0 0, .int .i64 0, .int .i64 0, .int .i64 0, .int .i64 0, .int .i64 0, .slice none 0 0] 28)))
              obtain ⟨wx5, hwx5⟩ : ∃ W, wx4.alloc (.cells #[.int .i64 0, .int .i64 0, .bool false, .slice none 0 0, .slice none 0 0, .int .i64 0, .int .i64 0, .int .i64 0, .int .i64 0, .int .i64 0, .slice none 0 0] 28) = W := ⟨_, rfl⟩
              refine hK.out _ _ (CELL.out _ bx5.out) (fun hHeld => ?_)
              clear hK K
              try simp only [List.getElem_toArray, List.getElem_cons_succ, List.getElem_cons_zero, Act.put, List.setIfInBounds_toArray, List.set_cons_zero, List.set_cons_succ]
              rw [hwx5] at bx5 hHeld vt5 qo5 ⊢
              clear hwx5
              refine wpAnyH_ready (rs := [12]) (by kernel_rfl) (by simp) ?_
              refine AllReadyH.cons rfl (fun K hK => ?_) ?_
              · have hput : (putAt (#[.int .i64 0, .int .i64 0, .bool false, .slice none 0 0, .slice none 0 0, .int .i64 0, .int .i64 0, .int .i64 0, .int .i64 0, .int .i64 0, .slice none 0 0] : Array Value).toList 0 (#[.int .i64 ck5, .int .i64 rt5, .bool sp5, .slice a05 p05.length c05, .slice a15 p15.length c15, .int .i64 p25, .int .i64 p35, .int .i64 p45, .int .i64 be5, .int .i64 en5, .slice ai5 it5.length ci5] : Array Value).toList).toArray = #[.int .i64 ck5, .int .i64 rt5, .bool sp5, .slice a05 p05.length c05, .slice a15 p15.length c15, .int .i64 p25, .int .i64 p35, .int .i64 p45, .int .i64 be5, .int .i64 en5, .slice ai5 it5.length ci5] := by simp [putAt]
                refine step_store_blk rfl 28 (.tmp 7) (.tmp 39) rfl wx4.heap.size 0 #[.int .i64 ck5, .int .i64 rt5, .bool sp5, .slice a05 p05.length c05, .slice a15 p15.length c15, .int .i64 p25, .int .i64 p35, .int .i64 p45, .int .i64 be5, .int .i64 en5, .slice ai5 it5.length ci5] #[.int .i64 0, .int .i64 0, .bool false, .slice none 0 0, .slice none 0 0, .int .i64 0, .int .i64 0, .int .i64 0, .int .i64 0, .int .i64 0, .slice none 0 0] 28 rfl rfl vt5.out (by simp) HIQ.out (by simp [Value.oneCell']) ?_
                intro wx6 hv hg
                rw [hput] at hv
                have bx6 : Hid (Below w1.heap.size w1 wx6) := Lib.hid (bx5.out.trans (Q.below_turn bx5.out.size hg (fun r e => by injection e with e; rw [← e]; exact ht5.out)))
                have qf := (qo5.out.far vt5.out hg).qin
                refine hK.out _ _ (CELL.out _ bx6.out) (fun hHeld => ?_)
                clear hK K
                try simp only [List.getElem_toArray, List.getElem_cons_succ, List.getElem_cons_zero, Act.put, List.setIfInBounds_toArray, List.set_cons_zero, List.set_cons_succ]
                refine tk 13 rfl (by kernel_rfl) hHeld (fun _ _ _ h => h) (v := ?_) ?_ ?_
                rotate_left 1
                · (intro w hSw; (try dsimp only at hSw); (try simp only [List.getElem_toArray, List.getElem_cons_succ, List.getElem_cons_zero]); go_simp) <;> (with_reducible rfl)
                try simp only [List.getElem_toArray, List.getElem_cons_succ, List.getElem_cons_zero, Act.put, List.setIfInBounds_toArray, List.set_cons_zero, List.set_cons_succ]
                refine wpAnyH_done (by kernel_rfl) ?_ _
                exact ⟨_, _, _, _, _, _, _, _, _, _, _, wx4.heap.size, (⟨ck5, rt5, sp5, ⟨⟨p05, p15, p25, p35, p45⟩, a05, c05, a15, c15⟩, be5, en5, it5, ai5, ci5⟩ : Q.Qm), E5.out, ⟨hv, qf⟩, bx6.out, rfl⟩
              exact AllReadyH.nil
            exact AllReadyH.nil
          refine AllReadyH.cons rfl (fun K hK => ?_) ?_
          · simp only [List.getElem_toArray, List.getElem_cons_succ, List.getElem_cons_zero]
            go_simp
            have bx7 : Hid (Below w1.heap.size w1 (wx3.alloc (.cells #[.int .i64 0, .int .i64 0, .bool false, .slice none 0 0, .slice none 0 0, .int .i64 0, .int .i64 0, .int .i64 0, .int .i64 0, .int .i64 0, .slice none 0 0] 28))) := Lib.hid (bx3.out.trans ((below_box wx3 (.cells #[.int .i64 0, .int .i64 0, .bool false, .slice none 0 0, .slice none 0 0, .int .i64 0, .int .i64 0, .int .i64 0, .int .i64 0, .int .i64 0, .slice none 0 0] 28)).mono bx3.out.size))
            have ow7 := Lib.hid (ow3.out.alloc (.cells #[.int .i64 0, .int .i64 0, .bool false, .slice none 0 0, .slice none 0 0, .int .i64 0, .int .i64 0, .int .i64 0, .int .i64 0, .int .i64 0, .slice none 0 0] 28))
            have vt7 := Lib.hid (new_block wx3 #[.int .i64 0, .int .i64 0, .bool false, .slice none 0 0, .slice none 0 0, .int .i64 0, .int .i64 0, .int .i64 0, .int .i64 0, .int .i64 0, .slice none 0 0] 28 rfl)
            have ht7 : Hid (w1.heap.size ≤ wx3.heap.size) := Lib.hid bx3.out.size
            obtain ⟨wx7, hwx7⟩ : ∃ W, wx3.alloc (.cells #[.int .i64 0, .int .i64 0, .bool false, .slice none 0 0, .slice none 0 0, .int .i64 0, .int .i64 0, .int .i64 0, .int .i64 0, .int .i64 0, .slice none 0 0] 28) = W := ⟨_, rfl⟩
            refine hK.out _ _ (CELL.out _ bx7.out) (fun hHeld => ?_)
            clear hK K
            try simp only [List.getElem_toArray, List.getElem_cons_succ, List.getElem_cons_zero, Act.put, List.setIfInBounds_toArray, List.set_cons_zero, List.set_cons_succ]
            rw [hwx7] at bx7 hHeld ow7 vt7 ⊢
            clear hwx7
            refine wpAnyH_ready (rs := [7]) (by kernel_rfl) (by simp) ?_
            refine AllReadyH.cons rfl (fun K hK => ?_) ?_
            · simp only [List.getElem_toArray, List.getElem_cons_succ, List.getElem_cons_zero]
              go_simp
              go_at_call 14
              refine (RP.out wx7 A3 c3 (HQ1.out.below bx7.out).i (Q.us_own (c := c3) (by rw [show Q.ucs (it ++ us) = Q.ucs it ++ Q.ucs us from by simp [Q.ucs]]; exact ow7.out) (by rw [List.length_append]) (fun m hm => by rcases List.mem_append.1 hm with hm | hm; exact (HQ1.out.below bx7.out).i.items.el m hm; exact (USB.out _ bx7.out).el m hm)) hcc3.out).mono ?_
              rintro e wx8 ⟨⟨ck5, rt5, sp5, ⟨⟨p05, p15, p25, p35, p45⟩, a05, c05, a15, c15⟩, be5, en5, it5, ai5, ci5⟩, rfl, e5, o5, b5⟩
              try go_wp2_with fail
              have bx8 : Hid (Below w1.heap.size w1 wx8) := Lib.hid (bx7.out.trans (b5.mono bx7.out.size))
              have vt8 := Lib.hid ((b5.block wx3.heap.size (Array.getElem?_eq_some_iff.1 vt7.out).1).trans vt7.out)
              have E5 := Lib.hid e5
              have QO5 := Lib.hid o5
              clear e5 o5 b5
              refine hK.out _ _ (CELL.out _ bx8.out) (fun hHeld => ?_)
              clear hK K
              try simp only [List.getElem_toArray, List.getElem_cons_succ, List.getElem_cons_zero, Act.put, List.setIfInBounds_toArray, List.set_cons_zero, List.set_cons_succ]
              simp only [Q.Qm.cells]
              refine tk 8 rfl (by kernel_rfl) hHeld (fun _ _ _ h => h) (v := ?_) ?_ ?_
              rotate_left 1
              · (intro w hSw; (try dsimp only at hSw); (try simp only [List.getElem_toArray, List.getElem_cons_succ, List.getElem_cons_zero]); go_simp) <;> (with_reducible rfl)
              try simp only [List.getElem_toArray, List.getElem_cons_succ, List.getElem_cons_zero, Act.put, List.setIfInBounds_toArray, List.set_cons_zero, List.set_cons_succ]
              refine tk 9 rfl (by kernel_rfl) hHeld (fun _ _ _ h => h) (v := ?_) ?_ ?_
              rotate_left 1
              · (intro w hSw; (try dsimp only at hSw); (try simp only [List.getElem_toArray, List.getElem_cons_succ, List.getElem_cons_zero]); go_simp) <;> (with_reducible rfl)
              try simp only [List.getElem_toArray, List.getElem_cons_succ, List.getElem_cons_zero, Act.put, List.setIfInBounds_toArray, List.set_cons_zero, List.set_cons_succ]
              refine tk 10 rfl (by kernel_rfl) hHeld (fun _ _ _ h => h) (v := ?_) ?_ ?_
              rotate_left 1
              · (intro w hSw; (try dsimp only at hSw); (try simp only [List.getElem_toArray, List.getElem_cons_succ, List.getElem_cons_zero]); go_simp) <;> (with_reducible rfl)
              try simp only [List.getElem_toArray, List.getElem_cons_succ, List.getElem_cons_zero, Act.put, List.setIfInBounds_toArray, List.set_cons_zero, List.set_cons_succ]
              refine wpAnyH_ready (rs := [12]) (by kernel_rfl) (by simp) ?_
              refine AllReadyH.cons rfl (fun K hK => ?_) ?_
              · have hput : (putAt (#[.int .i64 0, .int .i64 0, .bool false, .slice none 0 0, .slice none 0 0, .int .i64 0, .int .i64 0, .int .i64 0, .int .i64 0, .int .i64 0, .slice none 0 0] : Array Value).toList 0 (#[.int .i64 ck5, .int .i64 rt5, .bool sp5, .slice a05 p05.length c05, .slice a15 p15.length c15, .int .i64 p25, .int .i64 p35, .int .i64 p45, .int .i64 be5, .int .i64 en5, .slice ai5 it5.length ci5] : Array Value).toList).toArray = #[.int .i64 ck5, .int .i64 rt5, .bool sp5, .slice a05 p05.length c05, .slice a15 p15.length c15, .int .i64 p25, .int .i64 p35, .int .i64 p45, .int .i64 be5, .int .i64 en5, .slice ai5 it5.length ci5] := by simp [putAt]
                refine step_store_blk rfl 28 (.tmp 7) (.tmp 39) rfl wx3.heap.size 0 #[.int .i64 ck5, .int .i64 rt5, .bool sp5, .slice a05 p05.length c05, .slice a15 p15.length c15, .int .i64 p25, .int .i64 p35, .int .i64 p45, .int .i64 be5, .int .i64 en5, .slice ai5 it5.length ci5] #[.int .i64 0, .int .i64 0, .bool false, .slice none 0 0, .slice none 0 0, .int .i64 0, .int .i64 0, .int .i64 0, .int .i64 0, .int .i64 0, .slice none 0 0] 28 rfl rfl vt8.out (by simp) HIQ.out (by simp [Value.oneCell']) ?_
                intro wx9 hv hg
                rw [hput] at hv
                have bx9 : Hid (Below w1.heap.size w1 wx9) := Lib.hid (bx8.out.trans (Q.below_turn bx8.out.size hg (fun r e => by injection e with e; rw [← e]; exact ht7.out)))
                have qf := (QO5.out.far vt8.out hg).qin
                refine hK.out _ _ (CELL.out _ bx9.out) (fun hHeld => ?_)
                clear hK K
                try simp only [List.getElem_toArray, List.getElem_cons_succ, List.getElem_cons_zero, Act.put, List.setIfInBounds_toArray, List.set_cons_zero, List.set_cons_succ]
                refine tk 13 rfl (by kernel_rfl) hHeld (fun _ _ _ h => h) (v := ?_) ?_ ?_
                rotate_left 1
                · (intro w hSw; (try dsimp only at hSw); (try simp only [List.getElem_toArray, List.getElem_cons_succ, List.getElem_cons_zero]); go_simp) <;> (with_reducible rfl)
                try simp only [List.getElem_toArray, List.getElem_cons_succ, List.getElem_cons_zero, Act.put, List.setIfInBounds_toArray, List.set_cons_zero, List.set_cons_succ]
                refine wpAnyH_done (by kernel_rfl) ?_ _
                exact ⟨_, _, _, _, _, _, _, _, _, _, _, wx3.heap.size, (⟨ck5, rt5, sp5, ⟨⟨p05, p15, p25, p35, p45⟩, a05, c05, a15, c15⟩, be5, en5, it5, ai5, ci5⟩ : Q.Qm), E5.out, ⟨hv, qf⟩, bx9.out, rfl⟩
              exact AllReadyH.nil
            exact AllReadyH.nil
          exact AllReadyH.nil
        refine AllReadyH.cons rfl (fun K hK => ?_) ?_
        · simp only [List.getElem_toArray, List.getElem_cons_succ, List.getElem_cons_zero]
          go_simp
          have bx10 : Hid (Below w1.heap.size w1 (wx2.alloc (.cells #[.int .i64 0, .int .i64 0, .bool false, .slice none 0 0, .slice none 0 0, .int .i64 0, .int .i64 0, .int .i64 0, .int .i64 0, .int .i64 0, .slice none 0 0] 28))) := Lib.hid (bx2.out.trans ((below_box wx2 (.cells #[.int .i64 0, .int .i64 0, .bool false, .slice none 0 0, .slice none 0 0, .int .i64 0, .int .i64 0, .int .i64 0, .int .i64 0, .int .i64 0, .slice none 0 0] 28)).mono bx2.out.size))
          have ow10 := Lib.hid (ow2.out.alloc (.cells #[.int .i64 0, .int .i64 0, .bool false, .slice none 0 0, .slice none 0 0, .int .i64 0, .int .i64 0, .int .i64 0, .int .i64 0, .int .i64 0, .slice none 0 0] 28))
          have vt10 := Lib.hid (new_block wx2 #[.int .i64 0, .int .i64 0, .bool false, .slice none 0 0, .slice none 0 0, .int .i64 0, .int .i64 0, .int .i64 0, .int .i64 0, .int .i64 0, .slice none 0 0] 28 rfl)
          have ht10 : Hid (w1.heap.size ≤ wx2.heap.size) := Lib.hid bx2.out.size
          obtain ⟨wx10, hwx10⟩ : ∃ W, wx2.alloc (.cells #[.int .i64 0, .int .i64 0, .bool false, .slice none 0 0, .slice none 0 0, .int .i64 0, .int .i64 0, .int .i64 0, .int .i64 0, .int .i64 0, .slice none 0 0] 28) = W := ⟨_, rfl⟩
          refine hK.out _ _ (CELL.out _ bx10.out) (fun hHeld => ?_)
          clear hK K
          try simp only [List.getElem_toArray, List.getElem_cons_succ, List.getElem_cons_zero, Act.put, List.setIfInBounds_toArray, List.set_cons_zero, List.set_cons_succ]
          rw [hwx10] at bx10 hHeld ow10 vt10 ⊢
          clear hwx10
          refine wpAnyH_ready (rs := [6]) (by kernel_rfl) (by simp) ?_
          refine AllReadyH.cons rfl (fun K hK => ?_) ?_
          · refine step_append_any _ rfl (.tmp 35) (.tmp 36) 26 rfl w1.heap.size 25 iU _ 5 72 Try.underlying26 hiU hU0 hU1 hU2 rfl (by omega) (.slice A2 it.length c2) it.length (Q.ucs it) rfl ow10.out _ A us.length _ _ rfl (USB.out _ bx10.out).row (Q.ucs_one _) (by simp only [maxLen]; omega) (by omega) bx10.out.size ?_
            intro v11 wx11 hown11 hg11 _
            have bx11 : Hid (Below w1.heap.size w1 wx11) := Lib.hid (bx10.out.trans (Q.below_turn bx10.out.size hg11 (fun r e => (ow10.out.lt r e).1)))
            have vt11 := Lib.hid ((hg11.block wx2.heap.size (Array.getElem?_eq_some_iff.1 vt10.out).1 (fun e => Q.not_row ow10.out vt10.out e.symm)).trans vt10.out)
            obtain ⟨A11, c11, rfl, _, hc11⟩ := own_reads_cap hown11
            have ow11 := Lib.hid hown11
            have hcc11 := Lib.hid hc11
            clear hown11 hg11 hc11
            refine hK.out _ _ (CELL.out _ bx11.out) (fun hHeld => ?_)
            clear hK K
            try simp only [List.getElem_toArray, List.getElem_cons_succ, List.getElem_cons_zero, Act.put, List.setIfInBounds_toArray, List.set_cons_zero, List.set_cons_succ]
            refine wpAnyH_ready (rs := [7]) (by kernel_rfl) (by simp) ?_
            refine AllReadyH.cons rfl (fun K hK => ?_) ?_
            · simp only [List.getElem_toArray, List.getElem_cons_succ, List.getElem_cons_zero]
              go_simp
              go_at_call 14
              refine (RP.out wx11 A11 c11 (HQ1.out.below bx11.out).i (Q.us_own (c := c11) (by rw [show Q.ucs (it ++ us) = Q.ucs it ++ Q.ucs us from by simp [Q.ucs]]; exact ow11.out) (by rw [List.length_append]) (fun m hm => by rcases List.mem_append.1 hm with hm | hm; exact (HQ1.out.below bx11.out).i.items.el m hm; exact (USB.out _ bx11.out).el m hm)) hcc11.out).mono ?_
              rintro e wx12 ⟨⟨ck5, rt5, sp5, ⟨⟨p05, p15, p25, p35, p45⟩, a05, c05, a15, c15⟩, be5, en5, it5, ai5, ci5⟩, rfl, e5, o5, b5⟩
              try go_wp2_with fail
              have bx12 : Hid (Below w1.heap.size w1 wx12) := Lib.hid (bx11.out.trans (b5.mono bx11.out.size))
              have vt12 := Lib.hid ((b5.block wx2.heap.size (Array.getElem?_eq_some_iff.1 vt11.out).1).trans vt11.out)
              have E5 := Lib.hid e5
              have QO5 := Lib.hid o5
              clear e5 o5 b5
              refine hK.out _ _ (CELL.out _ bx12.out) (fun hHeld => ?_)
              clear hK K
              try simp only [List.getElem_toArray, List.getElem_cons_succ, List.getElem_cons_zero, Act.put, List.setIfInBounds_toArray, List.set_cons_zero, List.set_cons_succ]
              simp only [Q.Qm.cells]
              refine tk 8 rfl (by kernel_rfl) hHeld (fun _ _ _ h => h) (v := ?_) ?_ ?_
              rotate_left 1
              · (intro w hSw; (try dsimp only at hSw); (try simp only [List.getElem_toArray, List.getElem_cons_succ, List.getElem_cons_zero]); go_simp) <;> (with_reducible rfl)
              try simp only [List.getElem_toArray, List.getElem_cons_succ, List.getElem_cons_zero, Act.put, List.setIfInBounds_toArray, List.set_cons_zero, List.set_cons_succ]
              refine tk 9 rfl (by kernel_rfl) hHeld (fun _ _ _ h => h) (v := ?_) ?_ ?_
              rotate_left 1
              · (intro w hSw; (try dsimp only at hSw); (try simp only [List.getElem_toArray, List.getElem_cons_succ, List.getElem_cons_zero]); go_simp) <;> (with_reducible rfl)
              try simp only [List.getElem_toArray, List.getElem_cons_succ, List.getElem_cons_zero, Act.put, List.setIfInBounds_toArray, List.set_cons_zero, List.set_cons_succ]
              refine tk 10 rfl (by kernel_rfl) hHeld (fun _ _ _ h => h) (v := ?_) ?_ ?_
              rotate_left 1
              · (intro w hSw; (try dsimp only at hSw); (try simp only [List.getElem_toArray, List.getElem_cons_succ, List.getElem_cons_zero]); go_simp) <;> (with_reducible rfl)
              try simp only [List.getElem_toArray, List.getElem_cons_succ, List.getElem_cons_zero, Act.put, List.setIfInBounds_toArray, List.set_cons_zero, List.set_cons_succ]
              refine wpAnyH_ready (rs := [12]) (by kernel_rfl) (by simp) ?_
              refine AllReadyH.cons rfl (fun K hK => ?_) ?_
              · have hput : (putAt (#[.int .i64 0, .int .i64 0, .bool false, .slice none 0 0, .slice none 0 0, .int .i64 0, .int .i64 0, .int .i64 0, .int .i64 0, .int .i64 0, .slice none 0 0] : Array Value).toList 0 (#[.int .i64 ck5, .int .i64 rt5, .bool sp5, .slice a05 p05.length c05, .slice a15 p15.length c15, .int .i64 p25, .int .i64 p35, .int .i64 p45, .int .i64 be5, .int .i64 en5, .slice ai5 it5.length ci5] : Array Value).toList).toArray = #[.int .i64 ck5, .int .i64 rt5, .bool sp5, .slice a05 p05.length c05, .slice a15 p15.length c15, .int .i64 p25, .int .i64 p35, .int .i64 p45, .int .i64 be5, .int .i64 en5, .slice ai5 it5.length ci5] := by simp [putAt]
                refine step_store_blk rfl 28 (.tmp 7) (.tmp 39) rfl wx2.heap.size 0 #[.int .i64 ck5, .int .i64 rt5, .bool sp5, .slice a05 p05.length c05, .slice a15 p15.length c15, .int .i64 p25, .int .i64 p35, .int .i64 p45, .int .i64 be5, .int .i64 en5, .slice ai5 it5.length ci5] #[.int .i64 0, .int .i64 0, .bool false, .slice none 0 0, .slice none 0 0, .int .i64 0, .int .i64 0, .int .i64 0, .int .i64 0, .int .i64 0, .slice none 0 0] 28 rfl rfl vt12.out (by simp) HIQ.out (by simp [Value.oneCell']) ?_
                intro wx13 hv hg
                rw [hput] at hv
                have bx13 : Hid (Below w1.heap.size w1 wx13) := Lib.hid (bx12.out.trans (Q.below_turn bx12.out.size hg (fun r e => by injection e with e; rw [← e]; exact ht10.out)))
                have qf := (QO5.out.far vt12.out hg).qin
                refine hK.out _ _ (CELL.out _ bx13.out) (fun hHeld => ?_)
                clear hK K
                try simp only [List.getElem_toArray, List.getElem_cons_succ, List.getElem_cons_zero, Act.put, List.setIfInBounds_toArray, List.set_cons_zero, List.set_cons_succ]
                refine tk 13 rfl (by kernel_rfl) hHeld (fun _ _ _ h => h) (v := ?_) ?_ ?_
                rotate_left 1
                · (intro w hSw; (try dsimp only at hSw); (try simp only [List.getElem_toArray, List.getElem_cons_succ, List.getElem_cons_zero]); go_simp) <;> (with_reducible rfl)
                try simp only [List.getElem_toArray, List.getElem_cons_succ, List.getElem_cons_zero, Act.put, List.setIfInBounds_toArray, List.set_cons_zero, List.set_cons_succ]
                refine wpAnyH_done (by kernel_rfl) ?_ _
                exact ⟨_, _, _, _, _, _, _, _, _, _, _, wx2.heap.size, (⟨ck5, rt5, sp5, ⟨⟨p05, p15, p25, p35, p45⟩, a05, c05, a15, c15⟩, be5, en5, it5, ai5, ci5⟩ : Q.Qm), E5.out, ⟨hv, qf⟩, bx13.out, rfl⟩
              exact AllReadyH.nil
            exact AllReadyH.nil
          exact AllReadyH.nil
        exact AllReadyH.nil
      refine AllReadyH.cons rfl (fun K hK => ?_) ?_
      · simp only [List.getElem_toArray, List.getElem_cons_succ, List.getElem_cons_zero]
        go_simp
        have bx14 : Hid (Below w1.heap.size w1 (wx1.alloc (.cells #[.int .i64 0, .int .i64 0, .bool false, .slice none 0 0, .slice none 0 0, .int .i64 0, .int .i64 0, .int .i64 0, .int .i64 0, .int .i64 0, .slice none 0 0] 28))) := Lib.hid (bx1.out.trans ((below_box wx1 (.cells #[.int .i64 0, .int .i64 0, .bool false, .slice none 0 0, .slice none 0 0, .int .i64 0, .int .i64 0, .int .i64 0, .int .i64 0, .int .i64 0, .slice none 0 0] 28)).mono bx1.out.size))
        have ow14 := Lib.hid (ow1.out.alloc (.cells #[.int .i64 0, .int .i64 0, .bool false, .slice none 0 0, .slice none 0 0, .int .i64 0, .int .i64 0, .int .i64 0, .int .i64 0, .int .i64 0, .slice none 0 0] 28))
        have vt14 := Lib.hid (new_block wx1 #[.int .i64 0, .int .i64 0, .bool false, .slice none 0 0, .slice none 0 0, .int .i64 0, .int .i64 0, .int .i64 0, .int .i64 0, .int .i64 0, .slice none 0 0] 28 rfl)
        have ht14 : Hid (w1.heap.size ≤ wx1.heap.size) := Lib.hid bx1.out.size
        obtain ⟨wx14, hwx14⟩ : ∃ W, wx1.alloc (.cells #[.int .i64 0, .int .i64 0, .bool false, .slice none 0 0, .slice none 0 0, .int .i64 0, .int .i64 0, .int .i64 0, .int .i64 0, .int .i64 0, .slice none 0 0] 28) = W := ⟨_, rfl⟩
        refine hK.out _ _ (CELL.out _ bx14.out) (fun hHeld => ?_)
        clear hK K
        try simp only [List.getElem_toArray, List.getElem_cons_succ, List.getElem_cons_zero, Act.put, List.setIfInBounds_toArray, List.set_cons_zero, List.set_cons_succ]
        rw [hwx14] at bx14 hHeld ow14 vt14 ⊢
        clear hwx14
        refine wpAnyH_ready (rs := [4]) (by kernel_rfl) (by simp) ?_
        refine AllReadyH.cons rfl (fun K hK => ?_) ?_
        · refine step_append_any _ rfl (.tmp 32) (.tmp 34) 26 rfl w1.heap.size 25 iU _ 5 72 Try.underlying26 hiU hU0 hU1 hU2 rfl (by omega) (.slice (some ⟨wd.heap.size, 0, none⟩) 0 0) 0 [] rfl ow14.out _ ai it.length _ _ rfl ((HQ1.out.below bx14.out).i.items.row) (Q.ucs_one _) (by simp only [maxLen]; omega) (by omega) bx14.out.size ?_
          intro v15 wx15 hown15 hg15 _
          simp only [Nat.zero_add, List.nil_append] at hown15
          have bx15 : Hid (Below w1.heap.size w1 wx15) := Lib.hid (bx14.out.trans (Q.below_turn bx14.out.size hg15 (fun r e => (ow14.out.lt r e).1)))
          have vt15 := Lib.hid ((hg15.block wx1.heap.size (Array.getElem?_eq_some_iff.1 vt14.out).1 (fun e => Q.not_row ow14.out vt14.out e.symm)).trans vt14.out)
          obtain ⟨A15, c15, rfl, _, hc15⟩ := own_reads_cap hown15
          have ow15 := Lib.hid hown15
          have hcc15 := Lib.hid hc15
          clear hown15 hg15 hc15
          refine hK.out _ _ (CELL.out _ bx15.out) (fun hHeld => ?_)
          clear hK K
          try simp only [List.getElem_toArray, List.getElem_cons_succ, List.getElem_cons_zero, Act.put, List.setIfInBounds_toArray, List.set_cons_zero, List.set_cons_succ]
          refine wpAnyH_ready (rs := [6]) (by kernel_rfl) (by simp) ?_
          refine AllReadyH.cons rfl (fun K hK => ?_) ?_
          · refine step_append_any _ rfl (.tmp 35) (.tmp 36) 26 rfl w1.heap.size 25 iU _ 5 72 Try.underlying26 hiU hU0 hU1 hU2 rfl (by omega) (.slice A15 it.length c15) it.length (Q.ucs it) rfl ow15.out _ A us.length _ _ rfl (USB.out _ bx15.out).row (Q.ucs_one _) (by simp only [maxLen]; omega) (by omega) bx15.out.size ?_
            intro v16 wx16 hown16 hg16 _
            have bx16 : Hid (Below w1.heap.size w1 wx16) := Lib.hid (bx15.out.trans (Q.below_turn bx15.out.size hg16 (fun r e => (ow15.out.lt r e).1)))
            have vt16 := Lib.hid ((hg16.block wx1.heap.size (Array.getElem?_eq_some_iff.1 vt15.out).1 (fun e => Q.not_row ow15.out vt15.out e.symm)).trans vt15.out)
            obtain ⟨A16, c16, rfl, _, hc16⟩ := own_reads_cap hown16
            have ow16 := Lib.hid hown16
            have hcc16 := Lib.hid hc16
            clear hown16 hg16 hc16
            refine hK.out _ _ (CELL.out _ bx16.out) (fun hHeld => ?_)
            clear hK K
            try simp only [List.getElem_toArray, List.getElem_cons_succ, List.getElem_cons_zero, Act.put, List.setIfInBounds_toArray, List.set_cons_zero, List.set_cons_succ]
            refine wpAnyH_ready (rs := [7]) (by kernel_rfl) (by simp) ?_
            refine AllReadyH.cons rfl (fun K hK => ?_) ?_
            · simp only [List.getElem_toArray, List.getElem_cons_succ, List.getElem_cons_zero]
              go_simp
              go_at_call 14
              refine (RP.out wx16 A16 c16 (HQ1.out.below bx16.out).i (Q.us_own (c := c16) (by rw [show Q.ucs (it ++ us) = Q.ucs it ++ Q.ucs us from by simp [Q.ucs]]; exact ow16.out) (by rw [List.length_append]) (fun m hm => by rcases List.mem_append.1 hm with hm | hm; exact (HQ1.out.below bx16.out).i.items.el m hm; exact (USB.out _ bx16.out).el m hm)) hcc16.out).mono ?_
              rintro e wx17 ⟨⟨ck5, rt5, sp5, ⟨⟨p05, p15, p25, p35, p45⟩, a05, c05, a15, c15⟩, be5, en5, it5, ai5, ci5⟩, rfl, e5, o5, b5⟩
              try go_wp2_with fail
              have bx17 : Hid (Below w1.heap.size w1 wx17) := Lib.hid (bx16.out.trans (b5.mono bx16.out.size))
              have vt17 := Lib.hid ((b5.block wx1.heap.size (Array.getElem?_eq_some_iff.1 vt16.out).1).trans vt16.out)
              have E5 := Lib.hid e5
              have QO5 := Lib.hid o5
              clear e5 o5 b5
              refine hK.out _ _ (CELL.out _ bx17.out) (fun hHeld => ?_)
              clear hK K
              try simp only [List.getElem_toArray, List.getElem_cons_succ, List.getElem_cons_zero, Act.put, List.setIfInBounds_toArray, List.set_cons_zero, List.set_cons_succ]
              simp only [Q.Qm.cells]
              refine tk 8 rfl (by kernel_rfl) hHeld (fun _ _ _ h => h) (v := ?_) ?_ ?_
              rotate_left 1
              · (intro w hSw; (try dsimp only at hSw); (try simp only [List.getElem_toArray, List.getElem_cons_succ, List.getElem_cons_zero]); go_simp) <;> (with_reducible rfl)
              try simp only [List.getElem_toArray, List.getElem_cons_succ, List.getElem_cons_zero, Act.put, List.setIfInBounds_toArray, List.set_cons_zero, List.set_cons_succ]
              refine tk 9 rfl (by kernel_rfl) hHeld (fun _ _ _ h => h) (v := ?_) ?_ ?_
              rotate_left 1
              · (intro w hSw; (try dsimp only at hSw); (try simp only [List.getElem_toArray, List.getElem_cons_succ, List.getElem_cons_zero]); go_simp) <;> (with_reducible rfl)
              try simp only [List.getElem_toArray, List.getElem_cons_succ, List.getElem_cons_zero, Act.put, List.setIfInBounds_toArray, List.set_cons_zero, List.set_cons_succ]
              refine tk 10 rfl (by kernel_rfl) hHeld (fun _ _ _ h => h) (v := ?_) ?_ ?_
              rotate_left 1
              · (intro w hSw; (try dsimp only at hSw); (try simp only [List.getElem_toArray, List.getElem_cons_succ, List.getElem_cons_zero]); go_simp) <;> (with_reducible rfl)
              try simp only [List.getElem_toArray, List.getElem_cons_succ, List.getElem_cons_zero, Act.put, List.setIfInBounds_toArray, List.set_cons_zero, List.set_cons_succ]
              refine wpAnyH_ready (rs := [12]) (by kernel_rfl) (by simp) ?_
              refine AllReadyH.cons rfl (fun K hK => ?_) ?_
              · have hput : (putAt (#[.int .i64 0, .int .i64 0, .bool false, .slice none 0 0, .slice none 0 0, .int .i64 0, .int .i64 0, .int .i64 0, .int .i64 0, .int .i64 0, .slice none 0 0] : Array Value).toList 0 (#[.int .i64 ck5, .int .i64 rt5, .bool sp5, .slice a05 p05.length c05, .slice a15 p15.length c15, .int .i64 p25, .int .i64 p35, .int .i64 p45, .int .i64 be5, .int .i64 en5, .slice ai5 it5.length ci5] : Array Value).toList).toArray = #[.int .i64 ck5, .int .i64 rt5, .bool sp5, .slice a05 p05.length c05, .slice a15 p15.length c15, .int .i64 p25, .int .i64 p35, .int .i64 p45, .int .i64 be5, .int .i64 en5, .slice ai5 it5.length ci5] := by simp [putAt]
                refine step_store_blk rfl 28 (.tmp 7) (.tmp 39) rfl wx1.heap.size 0 #[.int .i64 ck5, .int .i64 rt5, .bool sp5, .slice a05 p05.length c05, .slice a15 p15.length c15, .int .i64 p25, .int .i64 p35, .int .i64 p45, .int .i64 be5, .int .i64 en5, .slice ai5 it5.length ci5] #[.int .i64 0, .int .i64 0, .bool false, .slice none 0 0, .slice none 0 0, .int .i64 0, .int .i64 0, .int .i64 0, .int .i64 0, .int .i64 0, .slice none 0 0] 28 rfl rfl vt17.out (by simp) HIQ.out (by simp [Value.oneCell']) ?_
                intro wx18 hv hg
                rw [hput] at hv
                have bx18 : Hid (Below w1.heap.size w1 wx18) := Lib.hid (bx17.out.trans (Q.below_turn bx17.out.size hg (fun r e => by injection e with e; rw [← e]; exact ht14.out)))
                have qf := (QO5.out.far vt17.out hg).qin
                refine hK.out _ _ (CELL.out _ bx18.out) (fun hHeld => ?_)
                clear hK K
                try simp only [List.getElem_toArray, List.getElem_cons_succ, List.getElem_cons_zero, Act.put, List.setIfInBounds_toArray, List.set_cons_zero, List.set_cons_succ]
                refine tk 13 rfl (by kernel_rfl) hHeld (fun _ _ _ h => h) (v := ?_) ?_ ?_
                rotate_left 1
                · (intro w hSw; (try dsimp only at hSw); (try simp only [List.getElem_toArray, List.getElem_cons_succ, List.getElem_cons_zero]); go_simp) <;> (with_reducible rfl)
                try simp only [List.getElem_toArray, List.getElem_cons_succ, List.getElem_cons_zero, Act.put, List.setIfInBounds_toArray, List.set_cons_zero, List.set_cons_succ]
                refine wpAnyH_done (by kernel_rfl) ?_ _
                exact ⟨_, _, _, _, _, _, _, _, _, _, _, wx1.heap.size, (⟨ck5, rt5, sp5, ⟨⟨p05, p15, p25, p35, p45⟩, a05, c05, a15, c15⟩, be5, en5, it5, ai5, ci5⟩ : Q.Qm), E5.out, ⟨hv, qf⟩, bx18.out, rfl⟩
              exact AllReadyH.nil
            exact AllReadyH.nil
          exact AllReadyH.nil
        exact AllReadyH.nil
      exact AllReadyH.nil
    refine AllReadyH.cons rfl (fun K hK => ?_) ?_
    · simp only [List.getElem_toArray, List.getElem_cons_succ, List.getElem_cons_zero]
      go_simp
      have bx19 : Hid (Below w1.heap.size w1 (wd.alloc (.cells #[.int .i64 0, .int .i64 0, .bool false, .slice none 0 0, .slice none 0 0, .int .i64 0, .int .i64 0, .int .i64 0, .int .i64 0, .int .i64 0, .slice none 0 0] 28))) := Lib.hid (bwd.out.trans ((below_box wd (.cells #[.int .i64 0, .int .i64 0, .bool false, .slice none 0 0, .slice none 0 0, .int .i64 0, .int .i64 0, .int .i64 0, .int .i64 0, .int .i64 0, .slice none 0 0] 28)).mono bwd.out.size))
      have vt19 := Lib.hid (new_block wd #[.int .i64 0, .int .i64 0, .bool false, .slice none 0 0, .slice none 0 0, .int .i64 0, .int .i64 0, .int .i64 0, .int .i64 0, .int .i64 0, .slice none 0 0] 28 rfl)
      have ht19 : Hid (w1.heap.size ≤ wd.heap.size) := Lib.hid bwd.out.size
      obtain ⟨wx19, hwx19⟩ : ∃ W, wd.alloc (.cells #[.int .i64 0, .int .i64 0, .bool false, .slice none 0 0, .slice none 0 0, .int .i64 0, .int .i64 0, .int .i64 0, .int .i64 0, .int .i64 0, .slice none 0 0] 28) = W := ⟨_, rfl⟩
      refine hK.out _ _ (CELL.out _ bx19.out) (fun hHeld => ?_)
      clear hK K
      try simp only [List.getElem_toArray, List.getElem_cons_succ, List.getElem_cons_zero, Act.put, List.setIfInBounds_toArray, List.set_cons_zero, List.set_cons_succ]
      rw [hwx19] at bx19 hHeld vt19 ⊢
      clear hwx19
      refine wpAnyH_ready (rs := [1]) (by kernel_rfl) (by simp) ?_
      refine AllReadyH.cons rfl (fun K hK => ?_) ?_
      · simp only [List.getElem_toArray, List.getElem_cons_succ, List.getElem_cons_zero]
        go_simp
        have bx20 : Hid (Below w1.heap.size w1 (wx19.alloc (.cells #[] 25))) := Lib.hid (bx19.out.trans ((below_box wx19 (.cells #[] 25)).mono bx19.out.size))
        have ow20 := Lib.hid (World.ownsRow_lit (base := w1.heap.size) (e := 25) (size := 5) wx19 #[] 0 bx19.out.size (by decide) rfl)
        have vt20 := Lib.hid (heap_old2 wx19 (.cells #[] 25) vt19.out)
        obtain ⟨wx20, hwx20⟩ : ∃ W, wx19.alloc (.cells #[] 25) = W := ⟨_, rfl⟩
        refine hK.out _ _ (CELL.out _ bx20.out) (fun hHeld => ?_)
        clear hK K
        try simp only [List.getElem_toArray, List.getElem_cons_succ, List.getElem_cons_zero, Act.put, List.setIfInBounds_toArray, List.set_cons_zero, List.set_cons_succ]
        rw [hwx20] at bx20 hHeld ow20 vt20 ⊢
        clear hwx20
        refine wpAnyH_ready (rs := [4]) (by kernel_rfl) (by simp) ?_
        refine AllReadyH.cons rfl (fun K hK => ?_) ?_
        · refine step_append_any _ rfl (.tmp 32) (.tmp 34) 26 rfl w1.heap.size 25 iU _ 5 72 Try.underlying26 hiU hU0 hU1 hU2 rfl (by omega) (.slice (some ⟨wx19.heap.size, 0, none⟩) 0 0) 0 [] rfl ow20.out _ ai it.length _ _ rfl ((HQ1.out.below bx20.out).i.items.row) (Q.ucs_one _) (by simp only [maxLen]; omega) (by omega) bx20.out.size ?_
          intro v21 wx21 hown21 hg21 _
          simp only [Nat.zero_add, List.nil_append] at hown21
          have bx21 : Hid (Below w1.heap.size w1 wx21) := Lib.hid (bx20.out.trans (Q.below_turn bx20.out.size hg21 (fun r e => (ow20.out.lt r e).1)))
          have vt21 := Lib.hid ((hg21.block wd.heap.size (Array.getElem?_eq_some_iff.1 vt20.out).1 (fun e => Q.not_row ow20.out vt20.out e.symm)).trans vt20.out)
          obtain ⟨A21, c21, rfl, _, hc21⟩ := own_reads_cap hown21
          have ow21 := Lib.hid hown21
          have hcc21 := Lib.hid hc21
          clear hown21 hg21 hc21
          refine hK.out _ _ (CELL.out _ bx21.out) (fun hHeld => ?_)
          clear hK K
          try simp only [List.getElem_toArray, List.getElem_cons_succ, List.getElem_cons_zero, Act.put, List.setIfInBounds_toArray, List.set_cons_zero, List.set_cons_succ]
          refine wpAnyH_ready (rs := [6]) (by kernel_rfl) (by simp) ?_
          refine AllReadyH.cons rfl (fun K hK => ?_) ?_
          · refine step_append_any _ rfl (.tmp 35) (.tmp 36) 26 rfl w1.heap.size 25 iU _ 5 72 Try.underlying26 hiU hU0 hU1 hU2 rfl (by omega) (.slice A21 it.length c21) it.length (Q.ucs it) rfl ow21.out _ A us.length _ _ rfl (USB.out _ bx21.out).row (Q.ucs_one _) (by simp only [maxLen]; omega) (by omega) bx21.out.size ?_
            intro v22 wx22 hown22 hg22 _
            have bx22 : Hid (Below w1.heap.size w1 wx22) := Lib.hid (bx21.out.trans (Q.below_turn bx21.out.size hg22 (fun r e => (ow21.out.lt r e).1)))
            have vt22 := Lib.hid ((hg22.block wd.heap.size (Array.getElem?_eq_some_iff.1 vt21.out).1 (fun e => Q.not_row ow21.out vt21.out e.symm)).trans vt21.out)
            obtain ⟨A22, c22, rfl, _, hc22⟩ := own_reads_cap hown22
            have ow22 := Lib.hid hown22
            have hcc22 := Lib.hid hc22
            clear hown22 hg22 hc22
            refine hK.out _ _ (CELL.out _ bx22.out) (fun hHeld => ?_)
            clear hK K
            try simp only [List.getElem_toArray, List.getElem_cons_succ, List.getElem_cons_zero, Act.put, List.setIfInBounds_toArray, List.set_cons_zero, List.set_cons_succ]
            refine wpAnyH_ready (rs := [7]) (by kernel_rfl) (by simp) ?_
            refine AllReadyH.cons rfl (fun K hK => ?_) ?_
            · simp only [List.getElem_toArray, List.getElem_cons_succ, List.getElem_cons_zero]
              go_simp
              go_at_call 14
              refine (RP.out wx22 A22 c22 (HQ1.out.below bx22.out).i (Q.us_own (c := c22) (by rw [show Q.ucs (it ++ us) = Q.ucs it ++ Q.ucs us from by simp [Q.ucs]]; exact ow22.out) (by rw [List.length_append]) (fun m hm => by rcases List.mem_append.1 hm with hm | hm; exact (HQ1.out.below bx22.out).i.items.el m hm; exact (USB.out _ bx22.out).el m hm)) hcc22.out).mono ?_
              rintro e wx23 ⟨⟨ck5, rt5, sp5, ⟨⟨p05, p15, p25, p35, p45⟩, a05, c05, a15, c15⟩, be5, en5, it5, ai5, ci5⟩, rfl, e5, o5, b5⟩
              try go_wp2_with fail
              have bx23 : Hid (Below w1.heap.size w1 wx23) := Lib.hid (bx22.out.trans (b5.mono bx22.out.size))
              have vt23 := Lib.hid ((b5.block wd.heap.size (Array.getElem?_eq_some_iff.1 vt22.out).1).trans vt22.out)
              have E5 := Lib.hid e5
              have QO5 := Lib.hid o5
              clear e5 o5 b5
              refine hK.out _ _ (CELL.out _ bx23.out) (fun hHeld => ?_)
              clear hK K
              try simp only [List.getElem_toArray, List.getElem_cons_succ, List.getElem_cons_zero, Act.put, List.setIfInBounds_toArray, List.set_cons_zero, List.set_cons_succ]
              simp only [Q.Qm.cells]
              refine tk 8 rfl (by kernel_rfl) hHeld (fun _ _ _ h => h) (v := ?_) ?_ ?_
              rotate_left 1
              · (intro w hSw; (try dsimp only at hSw); (try simp only [List.getElem_toArray, List.getElem_cons_succ, List.getElem_cons_zero]); go_simp) <;> (with_reducible rfl)
              try simp only [List.getElem_toArray, List.getElem_cons_succ, List.getElem_cons_zero, Act.put, List.setIfInBounds_toArray, List.set_cons_zero, List.set_cons_succ]
              refine tk 9 rfl (by kernel_rfl) hHeld (fun _ _ _ h => h) (v := ?_) ?_ ?_
              rotate_left 1
              · (intro w hSw; (try dsimp only at hSw); (try simp only [List.getElem_toArray, List.getElem_cons_succ, List.getElem_cons_zero]); go_simp) <;> (with_reducible rfl)
              try simp only [List.getElem_toArray, List.getElem_cons_succ, List.getElem_cons_zero, Act.put, List.setIfInBounds_toArray, List.set_cons_zero, List.set_cons_succ]
              refine tk 10 rfl (by kernel_rfl) hHeld (fun _ _ _ h => h) (v := ?_) ?_ ?_
              rotate_left 1
              · (intro w hSw; (try dsimp only at hSw); (try simp only [List.getElem_toArray, List.getElem_cons_succ, List.getElem_cons_zero]); go_simp) <;> (with_reducible rfl)
              try simp only [List.getElem_toArray, List.getElem_cons_succ, List.getElem_cons_zero, Act.put, List.setIfInBounds_toArray, List.set_cons_zero, List.set_cons_succ]
              refine wpAnyH_ready (rs := [12]) (by kernel_rfl) (by simp) ?_
              refine AllReadyH.cons rfl (fun K hK => ?_) ?_
              · have hput : (putAt (#[.int .i64 0, .int .i64 0, .bool false, .slice none 0 0, .slice none 0 0, .int .i64 0, .int .i64 0, .int .i64 0, .int .i64 0, .int .i64 0, .slice none 0 0] : Array Value).toList 0 (#[.int .i64 ck5, .int .i64 rt5, .bool sp5, .slice a05 p05.length c05, .slice a15 p15.length c15, .int .i64 p25, .int .i64 p35, .int .i64 p45, .int .i64 be5, .int .i64 en5, .slice ai5 it5.length ci5] : Array Value).toList).toArray = #[.int .i64 ck5, .int .i64 rt5, .bool sp5, .slice a05 p05.length c05, .slice a15 p15.length c15, .int .i64 p25, .int .i64 p35, .int .i64 p45, .int .i64 be5, .int .i64 en5, .slice ai5 it5.length ci5] := by simp [putAt]
                refine step_store_blk rfl 28 (.tmp 7) (.tmp 39) rfl wd.heap.size 0 #[.int .i64 ck5, .int .i64 rt5, .bool sp5, .slice a05 p05.length c05, .slice a15 p15.length c15, .int .i64 p25, .int .i64 p35, .int .i64 p45, .int .i64 be5, .int .i64 en5, .slice ai5 it5.length ci5] #[.int .i64 0, .int .i64 0, .bool false, .slice none 0 0, .slice none 0 0, .int .i64 0, .int .i64 0, .int .i64 0, .int .i64 0, .int .i64 0, .slice none 0 0] 28 rfl rfl vt23.out (by simp) HIQ.out (by simp [Value.oneCell']) ?_
                intro wx24 hv hg
                rw [hput] at hv
                have bx24 : Hid (Below w1.heap.size w1 wx24) := Lib.hid (bx23.out.trans (Q.below_turn bx23.out.size hg (fun r e => by injection e with e; rw [← e]; exact ht19.out)))
                have qf := (QO5.out.far vt23.out hg).qin
                refine hK.out _ _ (CELL.out _ bx24.out) (fun hHeld => ?_)
                clear hK K
                try simp only [List.getElem_toArray, List.getElem_cons_succ, List.getElem_cons_zero, Act.put, List.setIfInBounds_toArray, List.set_cons_zero, List.set_cons_succ]
                refine tk 13 rfl (by kernel_rfl) hHeld (fun _ _ _ h => h) (v := ?_) ?_ ?_
                rotate_left 1
                · (intro w hSw; (try dsimp only at hSw); (try simp only [List.getElem_toArray, List.getElem_cons_succ, List.getElem_cons_zero]); go_simp) <;> (with_reducible rfl)
                try simp only [List.getElem_toArray, List.getElem_cons_succ, List.getElem_cons_zero, Act.put, List.setIfInBounds_toArray, List.set_cons_zero, List.set_cons_succ]
                refine wpAnyH_done (by kernel_rfl) ?_ _
                exact ⟨_, _, _, _, _, _, _, _, _, _, _, wd.heap.size, (⟨ck5, rt5, sp5, ⟨⟨p05, p15, p25, p35, p45⟩, a05, c05, a15, c15⟩, be5, en5, it5, ai5, ci5⟩ : Q.Qm), E5.out, ⟨hv, qf⟩, bx24.out, rfl⟩
              exact AllReadyH.nil
            exact AllReadyH.nil
          exact AllReadyH.nil
        exact AllReadyH.nil
      exact AllReadyH.nil
    exact AllReadyH.nil
  case rest =>
    rintro a' wx ⟨y30, y31, y32, y33, y34, y35, y36, y37, y38, y39, y40, T, ⟨ck5, rt5, sp5, ⟨⟨p05, p15, p25, p35, p45⟩, a05, c05, a15, c15⟩, be5, en5, it5, ai5, ci5⟩, e5, h5, bx, rfl⟩
    have BX := Lib.hid (B1.out.trans (bx.mono B1.out.size))
    have hq2 := HQ1.out.below bx
    clear ka0 ka1 ka2 ka3 ka4 ka5 ka6 ka7 ka8 ka9 ka10
    obtain ⟨ka0, ka1, ka2, ka3, ka4, ka5, ka6, ka7, ka8, ka9, ka10⟩ := Q.hq_cells hq2
    have HQ2 := Lib.hid hq2
    obtain ⟨k0, k1, k2, k3, k4, k5, k6, k7, k8, k9, k10⟩ := Q.hq_cells h5
    have H5 := Lib.hid h5
    have E5 := Lib.hid e5
    clear hq2 h5 bx e5 HQ1 B1 HU RP
    rcases FR with ⟨rfl, fck, fcl, ffin, fpre⟩ | hn
    · have XC := Lib.hid fck
      have gM2 : decide (1099511627776 < t2) = false := decide_eq_false (by have := XT.out; have := HT2.out; have := of_decide_eq_false gM; omega)
      have AD2 := fun (W : World) (h : Q.QIn W W.heap.size (⟨ck5, rt5, sp5, ⟨⟨p05, p15, p25, p35, p45⟩, a05, c05, a15, c15⟩, be5, en5, it5, ai5, ci5⟩ : Q.Qm)) => Q.advance_hq t2 h (by rw [E5.out]; exact XS.out) (by rw [E5.out]; exact XC.out)
      rw [E5.out, Q.advR_ok (a := X1) (time := t2) (by rw [fcl]; exact XT.out.2.2) (by rw [fcl]; have := XT.out; have := HT2.out; simp only [Q.Qm.a]; omega) (by have := XT.out; have := HT2.out; have := of_decide_eq_false gM; omega)] at AD2
      have FP := Lib.hid (fpre t2 (by have := XT.out; have := HT2.out; simp only [Q.Qm.a]; omega))
      obtain ⟨Y1, hY1⟩ : ∃ Y, (X1.adv t2).1 = Y := ⟨_, rfl⟩
      obtain ⟨Y2, hY2⟩ : ∃ Y, (X1.adv t2).2 = Y := ⟨_, rfl⟩
      rw [hY1, hY2] at AD2
      rw [hY2] at FP
      obtain ⟨f1, hf1⟩ : ∃ f, Q.fin (⟨ck, rt, sp, ⟨⟨p0, p1, p2, p3, p4⟩, a0, c0, a1, c1⟩, be, en, it, ai, ci⟩ : Q.Qm).a = f := ⟨_, rfl⟩
      obtain ⟨f2, hf2⟩ : ∃ f, Q.fin X1 = f := ⟨_, rfl⟩
      rw [hf1, hf2] at ffin
      have gf : decide (f1 ≤ f2) = true := decide_eq_true ffin
      have gf2 : decide (f2 < f1) = false := decide_eq_false (by omega)
      have RQ := Lib.hid (fun (W : World) (h : Q.QIn W W.heap.size (⟨ck, rt, sp, ⟨⟨p0, p1, p2, p3, p4⟩, a0, c0, a1, c1⟩, be, en, it, ai, ci⟩ : Q.Qm)) => Q.rest_hq h SM.out CK.out)
      have R5q := Lib.hid (fun (W : World) (h : Q.QIn W W.heap.size (⟨ck5, rt5, sp5, ⟨⟨p05, p15, p25, p35, p45⟩, a05, c05, a15, c15⟩, be5, en5, it5, ai5, ci5⟩ : Q.Qm)) => Q.rest_hq h (by rw [E5.out]; exact XS.out) (by rw [E5.out]; exact XC.out))
      rw [hf1] at RQ
      rw [E5.out, hf2] at R5q
      simp only [Q.Qm.cells] at AD2 RQ R5q
      replace AD2 := Lib.hid AD2
      clear fck fcl ffin fpre hf1 hf2 hY1 hY2
      go_wp2_with (first
        | (go_at_call 24; (refine (AD1.out _ HQ2.out.i).mono ?_); (rintro e w3 ⟨⟨ck6, rt6, sp6, ⟨⟨p06, p16, p26, p36, p46⟩, a06, c06, a16, c16⟩, be6, en6, it6, ai6, ci6⟩, A6, d6, ss6, rfl, e6, es6, i6, r6, hd6, bb⟩); (simp only at e6 es6); (have by_ := below_box w3 (.cells #[.int .i64 ck6, .int .i64 rt6, .bool sp6, .slice a06 p06.length c06, .slice a16 p16.length c16, .int .i64 p26, .int .i64 p36, .int .i64 p46, .int .i64 be6, .int .i64 en6, .slice ai6 it6.length ci6] 28)); (have hk := (HQ2.out.below bb).below by_); (obtain ⟨v0, v1, v2, v3, v4, v5, v6, v7, v8, v9, v10⟩ := Q.hq_cells hk); (have HQ3 := Lib.hid hk); (clear hk); (have hk := (H5.out.below bb).below by_); (obtain ⟨kb0, kb1, kb2, kb3, kb4, kb5, kb6, kb7, kb8, kb9, kb10⟩ := Q.hq_cells hk); (have H5b := Lib.hid hk); (clear hk); (have R6 := Lib.hid (r6.on by_)); (have ES6 := Lib.hid es6); (have B3 := Lib.hid ((BX.out.trans (bb.mono BX.out.size)).trans (by_.mono (Nat.le_trans BX.out.size bb.size)))); (simp only [Q.Qm.cells]); (clear bb by_ i6 r6 e6 es6 hd6 HQ2 H5 BX AD1 ka0 ka1 ka2 ka3 ka4 ka5 ka6 ka7 ka8 ka9 ka10 k0 k1 k2 k3 k4 k5 k6 k7 k8 k9 k10))
        | (go_at_call 24; (refine (AD2.out _ H5b.out.i).mono ?_); (rintro e w4 ⟨⟨ck8, rt8, sp8, ⟨⟨p08, p18, p28, p38, p48⟩, a08, c08, a18, c18⟩, be8, en8, it8, ai8, ci8⟩, A8, d8, ss8, rfl, e8, es8, i8, r8, hd8, bb⟩); (simp only at e8 es8); (have by_ := below_box w4 (.cells #[.int .i64 ck8, .int .i64 rt8, .bool sp8, .slice a08 p08.length c08, .slice a18 p18.length c18, .int .i64 p28, .int .i64 p38, .int .i64 p48, .int .i64 be8, .int .i64 en8, .slice ai8 it8.length ci8] 28)); (have HQ4 := Lib.hid ((HQ3.out.below bb).below by_)); (have H5c := Lib.hid ((H5b.out.below bb).below by_)); (have R6b := Lib.hid ((R6.out.on bb).on by_)); (have R8 := Lib.hid (r8.on by_)); (have ES8 := Lib.hid es8); (have HD8 := Lib.hid hd8); (have B4 := Lib.hid ((B3.out.trans (bb.mono B3.out.size)).trans (by_.mono (Nat.le_trans B3.out.size bb.size)))); (simp only [Q.Qm.cells]); (clear bb by_ i8 r8 e8 es8 hd8 HQ3 H5b R6 B3 AD2 v0 v1 v2 v3 v4 v5 v6 v7 v8 v9 v10 kb0 kb1 kb2 kb3 kb4 kb5 kb6 kb7 kb8 kb9 kb10)))
      obtain ⟨W9, hW9⟩ : ∃ W, w4.alloc (.cells #[.int .i64 ck8, .int .i64 rt8, .bool sp8, .slice a08 p08.length c08, .slice a18 p18.length c18, .int .i64 p28, .int .i64 p38, .int .i64 p48, .int .i64 be8, .int .i64 en8, .slice ai8 it8.length ci8] 28) = W := ⟨_, rfl⟩
      rw [hW9] at HQ4 H5c R6b R8 B4 ⊢
      clear hW9
      have PT := Q.pre_take (l := ss6) (m := ss8) (by rw [ES6.out, ES8.out]; exact FP.out)
      have hln := PT.1
      have PT2 := Lib.hid PT.2
      have SLC := Q.slice_upto A8 hln HD8.out
      have hl6 : (List.take ss6.length ss8).length = ss6.length := by rw [List.length_take]; omega
      have HL6 := Lib.hid hl6
      have g1 : decide ((ss6.length : Int) ≤ (ss8.length : Int)) = true := decide_eq_true (by omega)
      have g2 : decide (ss6.length ≤ ss8.length) = true := decide_eq_true hln
      have g3 : ((ss6.length : Int) ≤ (ss8.length : Int)) = True := eq_true (by omega)
      have g4 : decide ((ss8.length : Int) < (ss6.length : Int)) = false := decide_eq_false (by omega)
      have CELL9 : Hid (∀ W : World, Below W9.heap.size W9 W → ((W.cell? ⟨w.heap.size, 0, none⟩ = some (.int .i64 ck) ∧ W.cell? ⟨w.heap.size, 1, none⟩ = some (.int .i64 rt) ∧ W.cell? ⟨w.heap.size, 2, none⟩ = some (.bool sp) ∧ W.cell? ⟨w.heap.size, 3, none⟩ = some (.slice a0 p0.length c0) ∧ W.cell? ⟨w.heap.size, 4, none⟩ = some (.slice a1 p1.length c1) ∧ W.cell? ⟨w.heap.size, 5, none⟩ = some (.int .i64 p2) ∧ W.cell? ⟨w.heap.size, 6, none⟩ = some (.int .i64 p3) ∧ W.cell? ⟨w.heap.size, 7, none⟩ = some (.int .i64 p4) ∧ W.cell? ⟨w.heap.size, 8, none⟩ = some (.int .i64 be) ∧ W.cell? ⟨w.heap.size, 9, none⟩ = some (.int .i64 en) ∧ W.cell? ⟨w.heap.size, 10, none⟩ = some (.slice ai it.length ci)) ∧ (W.cell? ⟨T, 0, none⟩ = some (.int .i64 ck5) ∧ W.cell? ⟨T, 1, none⟩ = some (.int .i64 rt5) ∧ W.cell? ⟨T, 2, none⟩ = some (.bool sp5) ∧ W.cell? ⟨T, 3, none⟩ = some (.slice a05 p05.length c05) ∧ W.cell? ⟨T, 4, none⟩ = some (.slice a15 p15.length c15) ∧ W.cell? ⟨T, 5, none⟩ = some (.int .i64 p25) ∧ W.cell? ⟨T, 6, none⟩ = some (.int .i64 p35) ∧ W.cell? ⟨T, 7, none⟩ = some (.int .i64 p45) ∧ W.cell? ⟨T, 8, none⟩ = some (.int .i64 be5) ∧ W.cell? ⟨T, 9, none⟩ = some (.int .i64 en5) ∧ W.cell? ⟨T, 10, none⟩ = some (.slice ai5 it5.length ci5)))) := Lib.hid (fun W hb => ⟨Q.hq_cells (HQ4.out.below hb), Q.hq_cells (H5c.out.below hb)⟩)
      have REP := Lib.hid (fun (W : World) (hb : Below W9.heap.size W9 W) => Q.reps_hq (c1 := d6) (c2 := d8) (R6b.out.on hb) ((R8.out.on hb).take hln) PT2.out (by rw [ES6.out]; have := XL.out; omega) (fun s hs => by rw [ES6.out] at hs; exact XR.out s hs))
      simp only [hl6] at REP
      clear PT hl6
      refine wp_normal ?_
      refine wp_region_held_drew (S := fun w' => (w'.cell? ⟨w.heap.size, 0, none⟩ = some (.int .i64 ck) ∧ w'.cell? ⟨w.heap.size, 1, none⟩ = some (.int .i64 rt) ∧ w'.cell? ⟨w.heap.size, 2, none⟩ = some (.bool sp) ∧ w'.cell? ⟨w.heap.size, 3, none⟩ = some (.slice a0 p0.length c0) ∧ w'.cell? ⟨w.heap.size, 4, none⟩ = some (.slice a1 p1.length c1) ∧ w'.cell? ⟨w.heap.size, 5, none⟩ = some (.int .i64 p2) ∧ w'.cell? ⟨w.heap.size, 6, none⟩ = some (.int .i64 p3) ∧ w'.cell? ⟨w.heap.size, 7, none⟩ = some (.int .i64 p4) ∧ w'.cell? ⟨w.heap.size, 8, none⟩ = some (.int .i64 be) ∧ w'.cell? ⟨w.heap.size, 9, none⟩ = some (.int .i64 en) ∧ w'.cell? ⟨w.heap.size, 10, none⟩ = some (.slice ai it.length ci)) ∧ (w'.cell? ⟨T, 0, none⟩ = some (.int .i64 ck5) ∧ w'.cell? ⟨T, 1, none⟩ = some (.int .i64 rt5) ∧ w'.cell? ⟨T, 2, none⟩ = some (.bool sp5) ∧ w'.cell? ⟨T, 3, none⟩ = some (.slice a05 p05.length c05) ∧ w'.cell? ⟨T, 4, none⟩ = some (.slice a15 p15.length c15) ∧ w'.cell? ⟨T, 5, none⟩ = some (.int .i64 p25) ∧ w'.cell? ⟨T, 6, none⟩ = some (.int .i64 p35) ∧ w'.cell? ⟨T, 7, none⟩ = some (.int .i64 p45) ∧ w'.cell? ⟨T, 8, none⟩ = some (.int .i64 be5) ∧ w'.cell? ⟨T, 9, none⟩ = some (.int .i64 en5) ∧ w'.cell? ⟨T, 10, none⟩ = some (.slice ai5 it5.length ci5))) (by kernel_rfl) (CELL9.out _ (Below.refl _ W9).drew) (fun hHeld => ?_)
      obtain ⟨we, hwe⟩ : ∃ wd, W9.drew = wd := ⟨_, rfl⟩
      have bd : Below W9.heap.size W9 we := by rw [← hwe]; exact (Below.refl _ W9).drew
      rw [hwe] at hHeld ⊢
      clear hwe
      refine tk 0 rfl (by kernel_rfl) hHeld (fun _ _ _ h => h) (v := ?_) ?_ ?_
      rotate_left 1
      · (intro w hSw; (try dsimp only at hSw); (try simp only [List.getElem_toArray, List.getElem_cons_succ, List.getElem_cons_zero]); go_simp) <;> (with_reducible rfl)
      try simp only [List.getElem_toArray, List.getElem_cons_succ, List.getElem_cons_zero, Act.put, List.setIfInBounds_toArray, List.set_cons_zero, List.set_cons_succ]
      refine tk 1 rfl (by kernel_rfl) hHeld (fun _ _ _ h => h) (v := ?_) ?_ ?_
      rotate_left 1
      · (intro w hSw; (try dsimp only at hSw); (try simp only [List.getElem_toArray, List.getElem_cons_succ, List.getElem_cons_zero]); go_simp) <;> (with_reducible rfl)
      try simp only [List.getElem_toArray, List.getElem_cons_succ, List.getElem_cons_zero, Act.put, List.setIfInBounds_toArray, List.set_cons_zero, List.set_cons_succ]
      refine tk 2 rfl (by kernel_rfl) hHeld (fun _ _ _ h => h) (v := ?_) ?_ ?_
      rotate_left 1
      · (intro w hSw; (try dsimp only at hSw); (try simp only [List.getElem_toArray, List.getElem_cons_succ, List.getElem_cons_zero]); go_simp) <;> (with_reducible rfl)
      try simp only [List.getElem_toArray, List.getElem_cons_succ, List.getElem_cons_zero, Act.put, List.setIfInBounds_toArray, List.set_cons_zero, List.set_cons_succ]
      refine tk 3 rfl (by kernel_rfl) hHeld (fun _ _ _ h => h) (v := ?_) ?_ ?_
      rotate_left 1
      · (intro w hSw; (try dsimp only at hSw); (try simp only [List.getElem_toArray, List.getElem_cons_succ, List.getElem_cons_zero]); go_simp) <;> (with_reducible rfl)
      try simp only [List.getElem_toArray, List.getElem_cons_succ, List.getElem_cons_zero, Act.put, List.setIfInBounds_toArray, List.set_cons_zero, List.set_cons_succ]
      refine tk 4 rfl (by kernel_rfl) hHeld (fun _ _ _ h => h) (v := ?_) ?_ ?_
      rotate_left 1
      · (intro w hSw; (try dsimp only at hSw); (try simp only [List.getElem_toArray, List.getElem_cons_succ, List.getElem_cons_zero]); go_simp) <;> (with_reducible rfl)
      try simp only [List.getElem_toArray, List.getElem_cons_succ, List.getElem_cons_zero, Act.put, List.setIfInBounds_toArray, List.set_cons_zero, List.set_cons_succ]
      refine tk 5 rfl (by kernel_rfl) hHeld (fun _ _ _ h => h) (v := ?_) ?_ ?_
      rotate_left 1
      · (intro w hSw; (try dsimp only at hSw); (try simp only [List.getElem_toArray, List.getElem_cons_succ, List.getElem_cons_zero]); go_simp) <;> (with_reducible rfl)
      try simp only [List.getElem_toArray, List.getElem_cons_succ, List.getElem_cons_zero, Act.put, List.setIfInBounds_toArray, List.set_cons_zero, List.set_cons_succ]
      refine tk 6 rfl (by kernel_rfl) hHeld (fun _ _ _ h => h) (v := ?_) ?_ ?_
      rotate_left 1
      · (intro w hSw; (try dsimp only at hSw); (try simp only [List.getElem_toArray, List.getElem_cons_succ, List.getElem_cons_zero]); go_simp) <;> (with_reducible rfl)
      try simp only [List.getElem_toArray, List.getElem_cons_succ, List.getElem_cons_zero, Act.put, List.setIfInBounds_toArray, List.set_cons_zero, List.set_cons_succ]
      refine tk 7 rfl (by kernel_rfl) hHeld (fun _ _ _ h => h) (v := ?_) ?_ ?_
      rotate_left 1
      · (intro w hSw; (try dsimp only at hSw); (try simp only [List.getElem_toArray, List.getElem_cons_succ, List.getElem_cons_zero]); go_simp) <;> (with_reducible rfl)
      try simp only [List.getElem_toArray, List.getElem_cons_succ, List.getElem_cons_zero, Act.put, List.setIfInBounds_toArray, List.set_cons_zero, List.set_cons_succ]
      refine tk 8 rfl (by kernel_rfl) hHeld (fun _ _ _ h => h) (v := ?_) ?_ ?_
      rotate_left 1
      · (intro w hSw; (try dsimp only at hSw); (try simp only [List.getElem_toArray, List.getElem_cons_succ, List.getElem_cons_zero]); go_simp) <;> (with_reducible rfl)
      try simp only [List.getElem_toArray, List.getElem_cons_succ, List.getElem_cons_zero, Act.put, List.setIfInBounds_toArray, List.set_cons_zero, List.set_cons_succ]
      refine tk 9 rfl (by kernel_rfl) hHeld (fun _ _ _ h => h) (v := ?_) ?_ ?_
      rotate_left 1
      · (intro w hSw; (try dsimp only at hSw); (try simp only [List.getElem_toArray, List.getElem_cons_succ, List.getElem_cons_zero]); go_simp) <;> (with_reducible rfl)
      try simp only [List.getElem_toArray, List.getElem_cons_succ, List.getElem_cons_zero, Act.put, List.setIfInBounds_toArray, List.set_cons_zero, List.set_cons_succ]
      refine tk 10 rfl (by kernel_rfl) hHeld (fun _ _ _ h => h) (v := ?_) ?_ ?_
      rotate_left 1
      · (intro w hSw; (try dsimp only at hSw); (try simp only [List.getElem_toArray, List.getElem_cons_succ, List.getElem_cons_zero]); go_simp) <;> (with_reducible rfl)
      try simp only [List.getElem_toArray, List.getElem_cons_succ, List.getElem_cons_zero, Act.put, List.setIfInBounds_toArray, List.set_cons_zero, List.set_cons_succ]
      refine tk 11 rfl (by kernel_rfl) hHeld (fun _ _ _ h => h) (v := ?_) ?_ ?_
      rotate_left 1
      · (intro w hSw; (try dsimp only at hSw); (try simp only [List.getElem_toArray, List.getElem_cons_succ, List.getElem_cons_zero]); go_simp) <;> (with_reducible rfl)
      try simp only [List.getElem_toArray, List.getElem_cons_succ, List.getElem_cons_zero, Act.put, List.setIfInBounds_toArray, List.set_cons_zero, List.set_cons_succ]
      refine tk 12 rfl (by kernel_rfl) hHeld (fun _ _ _ h => h) (v := ?_) ?_ ?_
      rotate_left 1
      · (intro w hSw; (try dsimp only at hSw); (try simp only [List.getElem_toArray, List.getElem_cons_succ, List.getElem_cons_zero]); go_simp) <;> (with_reducible rfl)
      try simp only [List.getElem_toArray, List.getElem_cons_succ, List.getElem_cons_zero, Act.put, List.setIfInBounds_toArray, List.set_cons_zero, List.set_cons_succ]
      refine tk 13 rfl (by kernel_rfl) hHeld (fun _ _ _ h => h) (v := ?_) ?_ ?_
      rotate_left 1
      · (intro w hSw; (try dsimp only at hSw); (try simp only [List.getElem_toArray, List.getElem_cons_succ, List.getElem_cons_zero]); go_simp) <;> (with_reducible rfl)
      try simp only [List.getElem_toArray, List.getElem_cons_succ, List.getElem_cons_zero, Act.put, List.setIfInBounds_toArray, List.set_cons_zero, List.set_cons_succ]
      refine tk 14 rfl (by kernel_rfl) hHeld (fun _ _ _ h => h) (v := ?_) ?_ ?_
      rotate_left 1
      · (intro w hSw; (try dsimp only at hSw); (try simp only [List.getElem_toArray, List.getElem_cons_succ, List.getElem_cons_zero]); go_simp) <;> (with_reducible rfl)
      try simp only [List.getElem_toArray, List.getElem_cons_succ, List.getElem_cons_zero, Act.put, List.setIfInBounds_toArray, List.set_cons_zero, List.set_cons_succ]
      refine tk 15 rfl (by kernel_rfl) hHeld (fun _ _ _ h => h) (v := ?_) ?_ ?_
      rotate_left 1
      · (intro w hSw; (try dsimp only at hSw); (try simp only [List.getElem_toArray, List.getElem_cons_succ, List.getElem_cons_zero]); go_simp) <;> (with_reducible rfl)
      try simp only [List.getElem_toArray, List.getElem_cons_succ, List.getElem_cons_zero, Act.put, List.setIfInBounds_toArray, List.set_cons_zero, List.set_cons_succ]
      refine tk 16 rfl (by kernel_rfl) hHeld (fun _ _ _ h => h) (v := ?_) ?_ ?_
      rotate_left 1
      · (intro w hSw; (try dsimp only at hSw); (try simp only [List.getElem_toArray, List.getElem_cons_succ, List.getElem_cons_zero]); go_simp) <;> (with_reducible rfl)
      try simp only [List.getElem_toArray, List.getElem_cons_succ, List.getElem_cons_zero, Act.put, List.setIfInBounds_toArray, List.set_cons_zero, List.set_cons_succ]
      refine tk 17 rfl (by kernel_rfl) hHeld (fun _ _ _ h => h) (v := ?_) ?_ ?_
      rotate_left 1
      · (intro w hSw; (try dsimp only at hSw); (try simp only [List.getElem_toArray, List.getElem_cons_succ, List.getElem_cons_zero]); go_simp) <;> (with_reducible rfl)
      try simp only [List.getElem_toArray, List.getElem_cons_succ, List.getElem_cons_zero, Act.put, List.setIfInBounds_toArray, List.set_cons_zero, List.set_cons_succ]
      refine tk 18 rfl (by kernel_rfl) hHeld (fun _ _ _ h => h) (v := ?_) ?_ ?_
      rotate_left 1
      · (intro w hSw; (try dsimp only at hSw); (try simp only [List.getElem_toArray, List.getElem_cons_succ, List.getElem_cons_zero]); go_simp) <;> (with_reducible rfl)
      try simp only [List.getElem_toArray, List.getElem_cons_succ, List.getElem_cons_zero, Act.put, List.setIfInBounds_toArray, List.set_cons_zero, List.set_cons_succ]
      refine wpAnyH_ready (rs := [19]) (by kernel_rfl) (by simp) (AllReadyH.cons rfl (fun K hK => ?_) AllReadyH.nil)
      simp only [List.getElem_toArray, List.getElem_cons_succ, List.getElem_cons_zero]
      go_simp
      go_at_call 26
      refine (REP.out we bd).mono ?_
      rintro e wa ⟨rfl, bz⟩
      try go_wp2_with fail
      have ba := bd.trans (bz.mono bd.size)
      refine hK.out _ _ (CELL9.out _ ba) (fun hHeld => ?_)
      clear hK K bz
      try simp only [List.getElem_toArray, List.getElem_cons_succ, List.getElem_cons_zero, Act.put, List.setIfInBounds_toArray, List.set_cons_zero, List.set_cons_succ]
      refine tk 20 rfl (by kernel_rfl) hHeld (fun _ _ _ h => h) (v := ?_) ?_ ?_
      rotate_left 1
      · (intro w hSw; (try dsimp only at hSw); (try simp only [List.getElem_toArray, List.getElem_cons_succ, List.getElem_cons_zero]); go_simp) <;> (with_reducible rfl)
      try simp only [List.getElem_toArray, List.getElem_cons_succ, List.getElem_cons_zero, Act.put, List.setIfInBounds_toArray, List.set_cons_zero, List.set_cons_succ]
      refine tk 21 rfl (by kernel_rfl) hHeld (fun _ _ _ h => h) (v := ?_) ?_ ?_
      rotate_left 1
      · (intro w hSw; (try dsimp only at hSw); (try simp only [List.getElem_toArray, List.getElem_cons_succ, List.getElem_cons_zero]); go_simp) <;> (with_reducible rfl)
      try simp only [List.getElem_toArray, List.getElem_cons_succ, List.getElem_cons_zero, Act.put, List.setIfInBounds_toArray, List.set_cons_zero, List.set_cons_succ]
      refine tk 22 rfl (by kernel_rfl) hHeld (fun _ _ _ h => h) (v := ?_) ?_ ?_
      rotate_left 1
      · (intro w hSw; (try dsimp only at hSw); (try simp only [List.getElem_toArray, List.getElem_cons_succ, List.getElem_cons_zero]); go_simp) <;> (with_reducible rfl)
      try simp only [List.getElem_toArray, List.getElem_cons_succ, List.getElem_cons_zero, Act.put, List.setIfInBounds_toArray, List.set_cons_zero, List.set_cons_succ]
      refine tk 24 rfl (by kernel_rfl) hHeld (fun _ _ _ h => h) (v := ?_) ?_ ?_
      rotate_left 1
      · (intro w hSw; (try dsimp only at hSw); (try simp only [List.getElem_toArray, List.getElem_cons_succ, List.getElem_cons_zero]); go_simp) <;> (with_reducible rfl)
      try simp only [List.getElem_toArray, List.getElem_cons_succ, List.getElem_cons_zero, Act.put, List.setIfInBounds_toArray, List.set_cons_zero, List.set_cons_succ]
      refine wpAnyH_ready (rs := [23]) (by kernel_rfl) (by simp) (AllReadyH.cons rfl (fun K hK => ?_) AllReadyH.nil)
      simp only [List.getElem_toArray, List.getElem_cons_succ, List.getElem_cons_zero]
      go_simp
      go_at_call 27
      refine (R5q.out wa (H5c.out.below ba).i).mono ?_
      rintro e wb ⟨rfl, bz⟩
      try go_wp2_with fail
      have bb := ba.trans (bz.mono ba.size)
      refine hK.out _ _ (CELL9.out _ bb) (fun hHeld => ?_)
      clear hK K bz
      try simp only [List.getElem_toArray, List.getElem_cons_succ, List.getElem_cons_zero, Act.put, List.setIfInBounds_toArray, List.set_cons_zero, List.set_cons_succ]
      refine wpAnyH_ready (rs := [25]) (by kernel_rfl) (by simp) (AllReadyH.cons rfl (fun K hK => ?_) AllReadyH.nil)
      simp only [List.getElem_toArray, List.getElem_cons_succ, List.getElem_cons_zero]
      go_simp
      go_at_call 27
      refine (RQ.out wb (HQ4.out.below bb).i).mono ?_
      rintro e wc ⟨rfl, bz⟩
      try go_wp2_with fail
      have bc := bb.trans (bz.mono bb.size)
      refine hK.out _ _ (CELL9.out _ bc) (fun hHeld => ?_)
      clear hK K bz
      try simp only [List.getElem_toArray, List.getElem_cons_succ, List.getElem_cons_zero, Act.put, List.setIfInBounds_toArray, List.set_cons_zero, List.set_cons_succ]
      refine tk 26 rfl (by kernel_rfl) hHeld (fun _ _ _ h => h) (v := ?_) ?_ ?_
      rotate_left 1
      · (intro w hSw; (try dsimp only at hSw); (try simp only [List.getElem_toArray, List.getElem_cons_succ, List.getElem_cons_zero]); go_simp) <;> (with_reducible rfl)
      try simp only [List.getElem_toArray, List.getElem_cons_succ, List.getElem_cons_zero, Act.put, List.setIfInBounds_toArray, List.set_cons_zero, List.set_cons_succ]
      refine tk 27 rfl (by kernel_rfl) hHeld (fun _ _ _ h => h) (v := ?_) ?_ ?_
      rotate_left 1
      · (intro w hSw; (try dsimp only at hSw); (try simp only [List.getElem_toArray, List.getElem_cons_succ, List.getElem_cons_zero]); go_simp) <;> (with_reducible rfl)
      try simp only [List.getElem_toArray, List.getElem_cons_succ, List.getElem_cons_zero, Act.put, List.setIfInBounds_toArray, List.set_cons_zero, List.set_cons_succ]
      refine tk 28 rfl (by kernel_rfl) hHeld (fun _ _ _ h => h) (v := ?_) ?_ ?_
      rotate_left 1
      · (intro w hSw; (try dsimp only at hSw); (try simp only [List.getElem_toArray, List.getElem_cons_succ, List.getElem_cons_zero]); go_simp) <;> (with_reducible rfl)
      try simp only [List.getElem_toArray, List.getElem_cons_succ, List.getElem_cons_zero, Act.put, List.setIfInBounds_toArray, List.set_cons_zero, List.set_cons_succ]
      refine wpAnyH_ready (rs := [29]) (by kernel_rfl) (by simp) (AllReadyH.cons rfl (fun K hK => ?_) AllReadyH.nil)
      simp only [List.getElem_toArray, List.getElem_cons_succ, List.getElem_cons_zero]
      go_simp
      go_at_call 13
      refine (AWK.out _).mono ?_
      rintro e we2 ⟨rfl, bz⟩
      try go_wp2_with fail
      have be_ := bc.trans (bz.mono bc.size)
      refine hK.out _ _ (CELL9.out _ be_) (fun hHeld => ?_)
      clear hK K bz
      try simp only [List.getElem_toArray, List.getElem_cons_succ, List.getElem_cons_zero, Act.put, List.setIfInBounds_toArray, List.set_cons_zero, List.set_cons_succ]
      refine tk 30 rfl (by kernel_rfl) hHeld (fun _ _ _ h => h) (v := ?_) ?_ ?_
      rotate_left 1
      · (intro w hSw; (try dsimp only at hSw); (try simp only [List.getElem_toArray, List.getElem_cons_succ, List.getElem_cons_zero]); go_simp) <;> (with_reducible rfl)
      try simp only [List.getElem_toArray, List.getElem_cons_succ, List.getElem_cons_zero, Act.put, List.setIfInBounds_toArray, List.set_cons_zero, List.set_cons_succ]
      refine tk 31 rfl (by kernel_rfl) hHeld (fun _ _ _ h => h) (v := ?_) ?_ ?_
      rotate_left 1
      · (intro w hSw; (try dsimp only at hSw); (try simp only [List.getElem_toArray, List.getElem_cons_succ, List.getElem_cons_zero]); go_simp) <;> (with_reducible rfl)
      try simp only [List.getElem_toArray, List.getElem_cons_succ, List.getElem_cons_zero, Act.put, List.setIfInBounds_toArray, List.set_cons_zero, List.set_cons_succ]
      refine wpAnyH_done (by kernel_rfl) ?_ _
      have BE := Lib.hid (B4.out.trans (be_.mono B4.out.size))
      clear hHeld
      go_wp2_with fail
      go_ret
      exact ⟨rfl, BE.out⟩
    · have hn1 : (n != 0) = true := by rcases hn with rfl | rfl <;> rfl
      clear hn
      go_wp2_with (first
        | (go_at_call 13; (refine (AWK.out _).mono ?_); (rintro e wE ⟨rfl, bE⟩); (have BE := Lib.hid (BX.out.trans (bE.mono BX.out.size))); (clear bE)))
      go_ret
      exact ⟨rfl, BE.out⟩
end Go.Proofs.Ytfjkelngdljikaa
