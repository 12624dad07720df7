/-
  The statements of layer 17: RowdiffAppend. By an AI agent.
-/
import Derived.Test.YteakiielcmgkeaaLwp
import Derived.Test.YteakiielcmgkeaaSlc
import Derived.Test.YteakiielcmgkeaaRApp
import Derived.Test.YteakiielcmgkeaaRk
namespace Go.Proofs.Yteakiielcmgkeaa
set_option linter.unusedSimpArgs false
set_option linter.unusedVariables false
open Go.RowKit Go.Deep

theorem R.chs_one (W : World) (x : R.Cs) (A' : Option Addr) (c : Nat) (hsl : x.sl = .slice A' x.c.gl.length c) (hr : Reads W W.heap.size 3 A' x.c.gl.length (R.gcs x.c.gl)) (hc : x.c.gl.length ≤ c) : R.Chs (W.alloc (.cells x.cells.toArray 29)) (W.alloc (.cells x.cells.toArray 29)).heap.size (some ⟨W.heap.size, 0, none⟩) [x] where
  row := by
    have h := reads_block1 W x.cells 29 6 rfl
    have e : R.ccs [x] = x.cells := by simp [R.ccs]
    rw [e]; exact h
  gl := fun y hy => by
    simp only [List.mem_singleton] at hy; subst hy
    exact ⟨A', c, hsl, (hr.alloc (Nat.le_refl _) _).more (by simp), hc⟩
theorem R.append_cut (a more : List R.G) (h : (R.trimEnd R.bl (R.trimEnd R.bl a ++ more)).length ≠ (R.trimEnd R.bl a).length) : ∃ s, R.trimEnd R.bl (R.trimEnd R.bl a ++ more) = R.trimEnd R.bl a ++ s ∧ s ≠ [] := by
  by_cases hm : R.trimEnd R.bl more = []
  · rw [R.trim_append_nil R.bl _ _ hm, R.trim_trim] at h
    exact absurd rfl h
  · exact ⟨_, R.trim_append R.bl _ _ hm, hm⟩
set_option linter.unusedSimpArgs false in
set_option maxRecDepth 100000 in
set_option maxHeartbeats 8000000 in
theorem append_any (A1 : Option Addr) (c1 : Nat) (a : List R.G) (A2 : Option Addr) (c2 : Nat) (more : List R.G) (w : World) (ha : Reads w w.heap.size 3 A1 a.length (R.gcs a)) (hla : a.length ≤ maxLen) (hca : a.length ≤ c1) (hb : Reads w w.heap.size 3 A2 more.length (R.gcs more)) (hlb : more.length ≤ maxLen) (hcb : more.length ≤ c2) :
    Calls Try.prog 5 #[.slice A1 a.length c1, .slice A2 more.length c2] w fun e w' => e = .returned (.bool true) ∧ Below w.heap.size w w' := by
  have FN := Lib.hid (fine2_any A1 A2 c1 c2 a.length more.length w hla hlb)
  have b0 : Below w.heap.size w (w.alloc (.cells #[.slice A1 a.length c1, .slice A2 more.length c2] 22)) := (Below.refl _ _).alloc (Nat.le_refl _) _
  have B0 := Lib.hid b0
  have HA := Lib.hid ha
  have HB := Lib.hid hb
  clear ha hb hla hlb
  cases hf : R.fine [a.length, more.length] with
  | false =>
    rw [hf] at FN
    clear hf b0
    go_enter Try.func5, Try.ntmps5
    go_wp2_with fail
    refine FN.out.mono ?_
    rintro e w1 ⟨rfl, rfl⟩
    go_wp2_with fail
    refine (awake_any _).mono ?_
    rintro e w5 ⟨rfl, b5⟩
    go_wp2_with fail
    go_ret
    exact ⟨rfl, B0.out.trans (b5.mono B0.out.size)⟩
  | true =>
  rw [hf] at FN
  obtain ⟨la, lb⟩ := R.fine2 hf
  obtain ⟨i0, hi0, hz0, hz1, hz2⟩ := info_parts infoG
  clear hf b0
  go_enter Try.func5, Try.ntmps5
  go_wp2_with fail
  refine FN.out.mono ?_
  rintro e w1 ⟨rfl, rfl⟩
  obtain ⟨W1, hW1⟩ : ∃ W, w.alloc (.cells #[.slice A1 a.length c1, .slice A2 more.length c2] 22) = W := ⟨_, rfl⟩
  rw [hW1] at B0 ⊢
  clear hW1 FN
  have ta := trim_len a
  have T1 := Lib.hid (trim_any A1 c1 w.heap.size a W1 (HA.out.below B0.out (Nat.le_refl _)) B0.out.size (by omega) hca)
  go_wp2_with fail
  refine T1.out.mono ?_
  rintro e w2 ⟨v2, rfl, own2, b2⟩
  obtain ⟨A3, c3, rfl, r3, hc3⟩ := own_reads_cap own2
  have R3 := Lib.hid r3
  have B2 := Lib.hid (B0.out.trans (b2.mono B0.out.size))
  have TT := R.trim_trim R.bl a
  have AC := R.append_cut a more
  obtain ⟨X, hX⟩ : ∃ X, R.trimEnd R.bl a = X := ⟨_, rfl⟩
  rw [hX] at R3 ta TT AC hc3 ⊢
  have TT := Lib.hid TT
  have AC := Lib.hid AC
  have own0 := World.ownsRow_lit (base := w2.heap.size) (e := 33) (size := 3) w2 #[] 0 (Nat.le_refl _) (by decide) rfl
  have hb0 : Below w2.heap.size w2 (w2.alloc (.cells #[] 33)) := (Below.refl _ _).alloc (Nat.le_refl _) _
  clear T1 own2 r3 b2 B0 hX
  go_wp2_with (first
    | (at_builtin; refine wpList_append_any _ rfl (.tmp 15) (.tmp 16) 22 rfl w2.heap.size 33 i0 _ 3 32 Try.underlying22 hi0 hz0 hz1 hz2 rfl (by decide) (.slice (some ⟨w2.heap.size, 0, none⟩) 0 0) 0 [] rfl own0 _ A3 X.length c3 (R.gcs X) rfl (R3.out.below hb0 (Nat.le_refl _)) (R.gcs_one _) (by simp only [maxLen]; omega) (by omega) hb0.size ?_; intro v4 W4 hown4 hg4 hn4; (have OWN4 : Hid (W4.ownsRow w2.heap.size 33 3 v4 X.length (R.gcs X)) := Lib.hid (by simpa using hown4)); (have BB4 := Lib.hid (hb0.grown hg4 hb0.size (own_below own0 (Nat.le_refl _)))); (clear own0 hb0 hown4 hg4 hn4))
    | (at_builtin; refine wpList_append_any _ rfl (.tmp 17) (.tmp 18) 22 rfl w2.heap.size 33 i0 _ 3 32 Try.underlying22 hi0 hz0 hz1 hz2 rfl (by decide) v4 X.length _ rfl OWN4.out _ A2 more.length c2 (R.gcs more) rfl (HB.out.below (B2.out.trans (BB4.out.mono B2.out.size)) (Nat.le_refl _)) (R.gcs_one _) (by simp only [maxLen]; omega) (by omega) BB4.out.size ?_; intro v5 W5 hown5 hg5 hn5; (have BB5 := Lib.hid (BB4.out.grown hg5 BB4.out.size (fun b e => (OWN4.out.lt b e).1))); (have OWN5 := Lib.hid hown5); (clear OWN4 BB4 hown5 hg5 hn5)))
  have HXM : (X ++ more).length = X.length + more.length := by simp
  have hxm : (X ++ more).length ≤ 100 := by omega
  have own5 := OWN5.out
  have B5 := Lib.hid (B2.out.trans (BB5.out.mono B2.out.size))
  have R35 := Lib.hid ((R3.out.below BB5.out (Nat.le_refl _)).more BB5.out.size)
  rw [← HXM, ← R.gcs_app] at own5
  obtain ⟨A5, c5, rfl, r5, hc5⟩ := own_reads_cap own5
  have T2 := Lib.hid (trim_any A5 c5 W5.heap.size (X ++ more) W5 r5 (Nat.le_refl _) (by omega) hc5)
  have HXM := Lib.hid HXM
  clear OWN5 own5 r5 R3 BB5 B2 hc5
  refine T2.out.mono ?_
  rintro e w6 ⟨v6, rfl, own6, b6⟩
  obtain ⟨A6, c6, rfl, r6, hc6⟩ := own_reads_cap own6
  have R6 := Lib.hid r6
  have B6 := Lib.hid (B5.out.trans (b6.mono B5.out.size))
  have R36 := Lib.hid ((R35.out.below b6 (Nat.le_refl _)).more b6.size)
  have ty := trim_len (X ++ more)
  have TY := R.trim_trim R.bl (X ++ more)
  obtain ⟨Y, hY⟩ : ∃ Y, R.trimEnd R.bl (X ++ more) = Y := ⟨_, rfl⟩
  rw [hY] at R6 AC ty TY hc6 ⊢
  have TY := Lib.hid TY
  clear T2 own6 r6 b6 R35 B5 hY
  by_cases hl : Y.length = X.length
  · have hlb : ((Y.length : Int) == (X.length : Int)) = true := by rw [hl]; simp
    clear AC
    go_wp2_with fail
    refine (awake_any _).mono ?_
    rintro e w12 ⟨rfl, b12⟩
    go_wp2_with fail
    go_ret
    exact ⟨rfl, B6.out.trans (b12.mono B6.out.size)⟩
  · have hlb : ((Y.length : Int) == (X.length : Int)) = false := by rw [beq_eq_false_iff_ne]; omega
    obtain ⟨s, hs1, hs2⟩ := AC.out hl
    have hxy : X.length ≤ Y.length := by rw [hs1]; simp
    have LAW := Lib.hid (R.append_law R.bl X Y s TT.out TY.out hs1 hs2)
    obtain ⟨A7, sl7, rd7⟩ := slice_from A6 Y (c := c6) hxy hc6
    have hsl : Y.length - X.length = s.length := by rw [hs1]; simp
    have hsd : Y.drop X.length = s := by rw [hs1]; simp
    rw [hsl] at sl7 rd7
    rw [hsd] at rd7
    have RD7 := Lib.hid rd7
    have hsc : s.length ≤ c6 - X.length := by omega
    have hsb : s.length ≤ 100 := by omega
    have q1 : (0 : Int) ≤ (X.length : Int) := by omega
    have q2 : (X.length : Int) ≤ (Y.length : Int) := by omega
    have SPW : Hid (∀ W, Below w6.heap.size w6 W → Calls Try.prog 14 #[.int .i64 2, .slice A3 X.length c3, .slice A6 Y.length c6] W fun e w' => R.SOut 2 [⟨X.length, 0, s⟩] W w' e) := Lib.hid (fun W h => by
      have := splices_any A3 A6 c3 c6 w6.heap.size 2 X Y W (R36.out.below h (Nat.le_refl _)) (R6.out.below h (Nat.le_refl _)) h.size (by omega) (by omega) hc3 hc6
      rw [LAW.out] at this
      exact this)
    have ONE : Hid (∀ W, Below w6.heap.size w6 W → R.Chs (W.alloc (.cells #[.int .i64 3, .int .i64 2, .int .i64 (X.length : Int), .int .i64 0, .int .i64 0, .slice A7 s.length (c6 - X.length)] 29)) (W.alloc (.cells #[.int .i64 3, .int .i64 2, .int .i64 (X.length : Int), .int .i64 0, .int .i64 0, .slice A7 s.length (c6 - X.length)] 29)).heap.size (some ⟨W.heap.size, 0, none⟩) [⟨⟨3, 2, X.length, 0, 0, s⟩, .slice A7 s.length (c6 - X.length)⟩]) := Lib.hid (fun W h =>
      R.chs_one W ⟨⟨3, 2, X.length, 0, 0, s⟩, .slice A7 s.length (c6 - X.length)⟩ A7 (c6 - X.length) rfl ((RD7.out _ _ (R6.out.below h (Nat.le_refl _))).more h.size) hsc)
    have SMW : Hid (∀ (W : World) (Ax Ay : Option Addr) (cx cy : Nat) (xs : List R.Cs), R.Chs W W.heap.size Ax xs → R.Chs W W.heap.size Ay [⟨⟨3, 2, X.length, 0, 0, s⟩, .slice A7 s.length (c6 - X.length)⟩] → xs.map (·.c) = [(⟨X.length, 0, s⟩ : R.Ch R.G)].map (R.Cx.of 2) → Calls Try.prog 13 #[.slice Ax xs.length cx, .slice Ay 1 cy] W fun e w' => e = .returned (.bool true) ∧ ∃ n, w' = W.drewN n) := Lib.hid (fun W Ax Ay cx cy xs h1 h2 h3 => by
      have hxl : xs.length = 1 := by have := congrArg List.length h3; simpa using this
      have h := same_any Ax Ay cx cy W.heap.size xs [⟨⟨3, 2, X.length, 0, 0, s⟩, .slice A7 s.length (c6 - X.length)⟩] W h1 h2 (by omega) (by simp) (fun x hx => by
        have hm : x.c ∈ xs.map (·.c) := List.mem_map.2 ⟨x, hx, rfl⟩
        rw [h3] at hm
        simp only [List.map_cons, List.map_nil, List.mem_singleton] at hm
        rw [hm]
        simp only [R.Cx.of]
        omega) (R.one_low (by simp only; omega))
      rw [decide_eq_true (by rw [h3]; rfl)] at h
      exact h)
    clear AC rd7 hs1 hs2 hsl hsd R36 R6 LAW RD7 TT TY hl
    go_wp2_with fail
    refine wp_region_held_drew (S := fun w' => True) (by kernel_rfl) trivial (fun hHeld => ?_)
    have BD0 : Below w6.heap.size w6 w6.drew := (Below.refl _ _).drew
    obtain ⟨WD, hWD⟩ : ∃ W, w6.drew = W := ⟨_, rfl⟩
    rw [hWD] at BD0 ⊢
    have BD := Lib.hid BD0
    clear hWD BD0
    refine tk 0 rfl (by kernel_rfl) hHeld (fun _ _ _ h => h) (v := ?_) ?_ ?_
    rotate_left 1
    · (intro w hSw; (try dsimp only at hSw); (try simp only [List.getElem_toArray, List.getElem_cons_succ, List.getElem_cons_zero]); go_simp) <;> (with_reducible rfl)
    try simp only [List.getElem_toArray, List.getElem_cons_succ, List.getElem_cons_zero, Act.put, List.setIfInBounds_toArray, List.set_cons_zero, List.set_cons_succ]
    refine tk 1 rfl (by kernel_rfl) hHeld (fun _ _ _ h => h) (v := ?_) ?_ ?_
    rotate_left 1
    · (intro w hSw; (try dsimp only at hSw); (try simp only [List.getElem_toArray, List.getElem_cons_succ, List.getElem_cons_zero]); go_simp) <;> (with_reducible rfl)
    try simp only [List.getElem_toArray, List.getElem_cons_succ, List.getElem_cons_zero, Act.put, List.setIfInBounds_toArray, List.set_cons_zero, List.set_cons_succ]
    refine tk 3 rfl (by kernel_rfl) hHeld (fun _ _ _ h => h) (v := ?_) ?_ ?_
    rotate_left 1
    · (intro w hSw; (try dsimp only at hSw); (try simp only [List.getElem_toArray, List.getElem_cons_succ, List.getElem_cons_zero]); go_simp) <;> (with_reducible rfl)
    try simp only [List.getElem_toArray, List.getElem_cons_succ, List.getElem_cons_zero, Act.put, List.setIfInBounds_toArray, List.set_cons_zero, List.set_cons_succ]
    refine tk 4 rfl (by kernel_rfl) hHeld (fun _ _ _ h => h) (v := ?_) ?_ ?_
    rotate_left 1
    · (intro w hSw; (try dsimp only at hSw); (try simp only [List.getElem_toArray, List.getElem_cons_succ, List.getElem_cons_zero]); go_simp) <;> (with_reducible rfl)
    try simp only [List.getElem_toArray, List.getElem_cons_succ, List.getElem_cons_zero, Act.put, List.setIfInBounds_toArray, List.set_cons_zero, List.set_cons_succ]
    refine tk 5 rfl (by kernel_rfl) hHeld (fun _ _ _ h => h) (v := ?_) ?_ ?_
    rotate_left 1
    · (intro w hSw; (try dsimp only at hSw); (try simp only [List.getElem_toArray, List.getElem_cons_succ, List.getElem_cons_zero]); go_simp) <;> (with_reducible rfl)
    try simp only [List.getElem_toArray, List.getElem_cons_succ, List.getElem_cons_zero, Act.put, List.setIfInBounds_toArray, List.set_cons_zero, List.set_cons_succ]
    refine tk 6 rfl (by kernel_rfl) hHeld (fun _ _ _ h => h) (v := ?_) ?_ ?_
    rotate_left 1
    · (intro w hSw; (try dsimp only at hSw); (try simp only [List.getElem_toArray, List.getElem_cons_succ, List.getElem_cons_zero]); go_simp) <;> (with_reducible rfl)
    try simp only [List.getElem_toArray, List.getElem_cons_succ, List.getElem_cons_zero, Act.put, List.setIfInBounds_toArray, List.set_cons_zero, List.set_cons_succ]
    refine tk 7 rfl (by kernel_rfl) hHeld (fun _ _ _ h => h) (v := ?_) ?_ ?_
    rotate_left 1
    · (intro w hSw; (try dsimp only at hSw); (try simp only [List.getElem_toArray, List.getElem_cons_succ, List.getElem_cons_zero]); go_simp) <;> (with_reducible rfl)
    try simp only [List.getElem_toArray, List.getElem_cons_succ, List.getElem_cons_zero, Act.put, List.setIfInBounds_toArray, List.set_cons_zero, List.set_cons_succ]
    refine tk 8 rfl (by kernel_rfl) hHeld (fun _ _ _ h => h) (v := ?_) ?_ ?_
    rotate_left 1
    · (intro w hSw; (try dsimp only at hSw); (try simp only [List.getElem_toArray, List.getElem_cons_succ, List.getElem_cons_zero]); go_simp) <;> (with_reducible rfl)
    try simp only [List.getElem_toArray, List.getElem_cons_succ, List.getElem_cons_zero, Act.put, List.setIfInBounds_toArray, List.set_cons_zero, List.set_cons_succ]
    refine tk 9 rfl (by kernel_rfl) hHeld (fun _ _ _ h => h) (v := ?_) ?_ ?_
    rotate_left 1
    · (intro w hSw; (try dsimp only at hSw); (try simp only [List.getElem_toArray, List.getElem_cons_succ, List.getElem_cons_zero]); go_simp) <;> (with_reducible rfl)
    try simp only [List.getElem_toArray, List.getElem_cons_succ, List.getElem_cons_zero, Act.put, List.setIfInBounds_toArray, List.set_cons_zero, List.set_cons_succ]
    refine wpAnyH_ready (rs := [2, 10]) (by kernel_rfl) (by simp) (AllReadyH.cons rfl (fun K hK => ?_) (AllReadyH.cons rfl (fun K hK => ?_) AllReadyH.nil))
    · simp only [List.getElem_toArray, List.getElem_cons_succ, List.getElem_cons_zero]
      go_simp
      go_at_call 14
      refine (SPW.out _ BD.out).mono ?_
      rintro e w7 ⟨v7, xs, rfl, own7, hx7, b7⟩
      obtain ⟨Ax, cx, rfl, chx, _⟩ := own7.chs
      have HX := Lib.hid hx7
      have CHX0 := Lib.hid chx
      have BX := Lib.hid (BD.out.trans (b7.mono BD.out.size))
      clear own7 hx7 chx
      try go_wp2_with fail
      refine hK.out _ _ trivial (fun hHeld => ?_)
      clear hK K
      try simp only [List.getElem_toArray, List.getElem_cons_succ, List.getElem_cons_zero, Act.put, List.setIfInBounds_toArray, List.set_cons_zero, List.set_cons_succ]
      refine wpAnyH_ready (rs := [10]) (by kernel_rfl) (by simp) (AllReadyH.cons rfl (fun K hK => ?_) AllReadyH.nil)
      simp only [List.getElem_toArray, List.getElem_cons_succ, List.getElem_cons_zero]
      go_simp
      have CH1 := Lib.hid (ONE.out w7 BX.out)
      have BA : Below w7.heap.size w7 (w7.alloc (.cells #[.int .i64 3, .int .i64 2, .int .i64 (X.length : Int), .int .i64 0, .int .i64 0, .slice A7 s.length (c6 - X.length)] 29)) := (Below.refl _ _).alloc (Nat.le_refl _) _
      have CHX := Lib.hid ((CHX0.out.below BA (Nat.le_refl _)).more BA.size)
      have B7 := Lib.hid (B6.out.trans ((BX.out.trans (BA.mono BX.out.size)).mono B6.out.size))
      refine hK.out _ _ trivial (fun hHeld => ?_)
      clear hK K
      try simp only [List.getElem_toArray, List.getElem_cons_succ, List.getElem_cons_zero, Act.put, List.setIfInBounds_toArray, List.set_cons_zero, List.set_cons_succ]
      refine wpAnyH_ready (rs := [11]) (by kernel_rfl) (by simp) (AllReadyH.cons rfl (fun K hK => ?_) AllReadyH.nil)
      simp only [List.getElem_toArray, List.getElem_cons_succ, List.getElem_cons_zero]
      go_simp
      go_at_call 13
      refine (SMW.out _ _ _ _ _ _ CHX.out CH1.out HX.out).mono ?_
      rintro e w8 ⟨rfl, n8, rfl⟩
      try go_wp2_with fail
      refine hK.out _ _ trivial (fun hHeld => ?_)
      clear hK K
      try simp only [List.getElem_toArray, List.getElem_cons_succ, List.getElem_cons_zero, Act.put, List.setIfInBounds_toArray, List.set_cons_zero, List.set_cons_succ]
      refine tk 12 rfl (by kernel_rfl) hHeld (fun _ _ _ h => h) (v := ?_) ?_ ?_
      rotate_left 1
      · (intro w hSw; (try dsimp only at hSw); (try simp only [List.getElem_toArray, List.getElem_cons_succ, List.getElem_cons_zero]); go_simp) <;> (with_reducible rfl)
      try simp only [List.getElem_toArray, List.getElem_cons_succ, List.getElem_cons_zero, Act.put, List.setIfInBounds_toArray, List.set_cons_zero, List.set_cons_succ]
      have B8 := Lib.hid (below_drewN B7.out n8)
      refine wpAnyH_ready (rs := [13]) (by kernel_rfl) (by simp) (AllReadyH.cons rfl (fun K hK => ?_) AllReadyH.nil)
      simp only [List.getElem_toArray, List.getElem_cons_succ, List.getElem_cons_zero]
      go_simp
      go_at_call 12
      refine (awake_any _).mono ?_
      rintro e w9 ⟨rfl, b9⟩
      try go_wp2_with fail
      refine hK.out _ _ trivial (fun hHeld => ?_)
      clear hK K
      try simp only [List.getElem_toArray, List.getElem_cons_succ, List.getElem_cons_zero, Act.put, List.setIfInBounds_toArray, List.set_cons_zero, List.set_cons_succ]
      refine tk 14 rfl (by kernel_rfl) hHeld (fun _ _ _ h => h) (v := ?_) ?_ ?_
      rotate_left 1
      · (intro w hSw; (try dsimp only at hSw); (try simp only [List.getElem_toArray, List.getElem_cons_succ, List.getElem_cons_zero]); go_simp) <;> (with_reducible rfl)
      try simp only [List.getElem_toArray, List.getElem_cons_succ, List.getElem_cons_zero, Act.put, List.setIfInBounds_toArray, List.set_cons_zero, List.set_cons_succ]
      refine tk 15 rfl (by kernel_rfl) hHeld (fun _ _ _ h => h) (v := ?_) ?_ ?_
      rotate_left 1
      · (intro w hSw; (try dsimp only at hSw); (try simp only [List.getElem_toArray, List.getElem_cons_succ, List.getElem_cons_zero]); go_simp) <;> (with_reducible rfl)
      try simp only [List.getElem_toArray, List.getElem_cons_succ, List.getElem_cons_zero, Act.put, List.setIfInBounds_toArray, List.set_cons_zero, List.set_cons_succ]
      refine wpAnyH_done (by kernel_rfl) ?_ _
      go_wp2_with fail
      go_ret
      exact ⟨rfl, B8.out.trans (b9.mono B8.out.size)⟩
    · simp only [List.getElem_toArray, List.getElem_cons_succ, List.getElem_cons_zero]
      go_simp
      have CH10 := Lib.hid (ONE.out _ BD.out)
      have BA := Lib.hid (BD.out.alloc BD.out.size (.cells #[.int .i64 3, .int .i64 2, .int .i64 (X.length : Int), .int .i64 0, .int .i64 0, .slice A7 s.length (c6 - X.length)] 29))
      refine hK.out _ _ trivial (fun hHeld => ?_)
      clear hK K
      try simp only [List.getElem_toArray, List.getElem_cons_succ, List.getElem_cons_zero, Act.put, List.setIfInBounds_toArray, List.set_cons_zero, List.set_cons_succ]
      obtain ⟨WA, hWA⟩ : ∃ W, WD.alloc (.cells #[.int .i64 3, .int .i64 2, .int .i64 (X.length : Int), .int .i64 0, .int .i64 0, .slice A7 s.length (c6 - X.length)] 29) = W := ⟨_, rfl⟩
      rw [hWA] at CH10 BA ⊢
      clear hWA
      refine wpAnyH_ready (rs := [2]) (by kernel_rfl) (by simp) (AllReadyH.cons rfl (fun K hK => ?_) AllReadyH.nil)
      simp only [List.getElem_toArray, List.getElem_cons_succ, List.getElem_cons_zero]
      go_simp
      go_at_call 14
      refine (SPW.out _ BA.out).mono ?_
      rintro e w7 ⟨v7, xs, rfl, own7, hx7, b7⟩
      obtain ⟨Ax, cx, rfl, chx, _⟩ := own7.chs
      have HX := Lib.hid hx7
      have CHX := Lib.hid chx
      have CH1 := Lib.hid ((CH10.out.below b7 (Nat.le_refl _)).more b7.size)
      have B7 := Lib.hid (B6.out.trans ((BA.out.trans (b7.mono BA.out.size)).mono B6.out.size))
      clear own7 hx7 chx
      try go_wp2_with fail
      refine hK.out _ _ trivial (fun hHeld => ?_)
      clear hK K
      try simp only [List.getElem_toArray, List.getElem_cons_succ, List.getElem_cons_zero, Act.put, List.setIfInBounds_toArray, List.set_cons_zero, List.set_cons_succ]
      refine wpAnyH_ready (rs := [11]) (by kernel_rfl) (by simp) (AllReadyH.cons rfl (fun K hK => ?_) AllReadyH.nil)
      simp only [List.getElem_toArray, List.getElem_cons_succ, List.getElem_cons_zero]
      go_simp
      go_at_call 13
      refine (SMW.out _ _ _ _ _ _ CHX.out CH1.out HX.out).mono ?_
      rintro e w8 ⟨rfl, n8, rfl⟩
      try go_wp2_with fail
      refine hK.out _ _ trivial (fun hHeld => ?_)
      clear hK K
      try simp only [List.getElem_toArray, List.getElem_cons_succ, List.getElem_cons_zero, Act.put, List.setIfInBounds_toArray, List.set_cons_zero, List.set_cons_succ]
      refine tk 12 rfl (by kernel_rfl) hHeld (fun _ _ _ h => h) (v := ?_) ?_ ?_
      rotate_left 1
      · (intro w hSw; (try dsimp only at hSw); (try simp only [List.getElem_toArray, List.getElem_cons_succ, List.getElem_cons_zero]); go_simp) <;> (with_reducible rfl)
      try simp only [List.getElem_toArray, List.getElem_cons_succ, List.getElem_cons_zero, Act.put, List.setIfInBounds_toArray, List.set_cons_zero, List.set_cons_succ]
      have B8 := Lib.hid (below_drewN B7.out n8)
      refine wpAnyH_ready (rs := [13]) (by kernel_rfl) (by simp) (AllReadyH.cons rfl (fun K hK => ?_) AllReadyH.nil)
      simp only [List.getElem_toArray, List.getElem_cons_succ, List.getElem_cons_zero]
      go_simp
      go_at_call 12
      refine (awake_any _).mono ?_
      rintro e w9 ⟨rfl, b9⟩
      try go_wp2_with fail
      refine hK.out _ _ trivial (fun hHeld => ?_)
      clear hK K
      try simp only [List.getElem_toArray, List.getElem_cons_succ, List.getElem_cons_zero, Act.put, List.setIfInBounds_toArray, List.set_cons_zero, List.set_cons_succ]
      refine tk 14 rfl (by kernel_rfl) hHeld (fun _ _ _ h => h) (v := ?_) ?_ ?_
      rotate_left 1
      · (intro w hSw; (try dsimp only at hSw); (try simp only [List.getElem_toArray, List.getElem_cons_succ, List.getElem_cons_zero]); go_simp) <;> (with_reducible rfl)
      try simp only [List.getElem_toArray, List.getElem_cons_succ, List.getElem_cons_zero, Act.put, List.setIfInBounds_toArray, List.set_cons_zero, List.set_cons_succ]
      refine tk 15 rfl (by kernel_rfl) hHeld (fun _ _ _ h => h) (v := ?_) ?_ ?_
      rotate_left 1
      · (intro w hSw; (try dsimp only at hSw); (try simp only [List.getElem_toArray, List.getElem_cons_succ, List.getElem_cons_zero]); go_simp) <;> (with_reducible rfl)
      try simp only [List.getElem_toArray, List.getElem_cons_succ, List.getElem_cons_zero, Act.put, List.setIfInBounds_toArray, List.set_cons_zero, List.set_cons_succ]
      refine wpAnyH_done (by kernel_rfl) ?_ _
      go_wp2_with fail
      go_ret
      exact ⟨rfl, B8.out.trans (b9.mono B8.out.size)⟩
end Go.Proofs.Yteakiielcmgkeaa
