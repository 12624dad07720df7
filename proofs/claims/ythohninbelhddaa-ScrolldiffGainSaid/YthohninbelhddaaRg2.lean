/-
  The walks of layer 18: the reference's Rows. By an AI agent.
-/
import Derived.Test.YthohninbelhddaaRw
namespace Go.Proofs.Ythohninbelhddaa
open Go.RowKit

attribute [local go_sem] guard44

theorem C.RI.nil2 (w : World) : C.RI w (w.alloc (.cells #[] 27)) 0 (.slice (some ⟨w.heap.size, 0, none⟩) 0 0) [] :=
  ⟨World.ownsRow_lit (base := w.heap.size) (e := 27) (size := 1) w #[] 0 (Nat.le_refl _) (by decide) rfl, rfl, fun r h => absurd h (by simp), (Below.refl _ _).alloc (Nat.le_refl _) _⟩
set_option maxRecDepth 10000 in
set_option maxHeartbeats 4000000 in
theorem refRows_any (B : Nat) (A : Option Addr) (c : Nat) (rs : List (Option Addr × Nat × List C.Gl)) (t e k : Int) (w : World) (h : C.Rv w B A rs) (hB : B ≤ w.heap.size) (hl : rs.length ≤ 1000) (h40 : ∀ r ∈ rs, r.2.2.length ≤ 1000) :
    Calls Try.prog 19 #[.slice A rs.length c, .int .i64 t, .int .i64 e, .int .i64 k] w fun x w' => C.RowsOut (rs.map (·.2.2)) t e k w w' x := by
  have PO := Lib.hid (refposs_any rs.length t e k w (by simp only [maxLen]; omega))
  have hlen : (rs.map (·.2.2)).length = rs.length := by simp
  obtain ⟨gl, hgl⟩ : ∃ gl, rs.map (·.2.2) = gl := ⟨_, rfl⟩
  rw [hgl] at hlen ⊢
  cases hp : V.possB rs.length t e k with
  | false =>
    rw [hp] at PO
    have HP : Hid (V.possB gl.length t e k = false) := Lib.hid (by rw [hlen]; exact hp)
    clear hp hlen hgl h h40
    go_enter Try.func19, Try.ntmps19
    go_wp2_with fail
    refine PO.out.mono ?_
    rintro x w' ⟨rfl, rfl⟩
    go_wp2_with fail
    go_ret2
    exact ⟨Below.refl _ _, .inl ⟨HP.out, _, _, rfl⟩⟩
  | true =>
    rw [hp] at PO
    have HP : Hid (V.possB gl.length t e k = true) := Lib.hid (by rw [hlen]; exact hp)
    obtain ⟨p1, p2, p3, p4, p5, p6⟩ := of_decide_eq_true hp
    obtain ⟨i0, hi, hz0, hz1, hz2⟩ := info_parts infoRow
    obtain ⟨j0, hj, hj0, hj1, hj2⟩ := info_parts infoGl
    have HL := Lib.hid hlen
    have HV := Lib.hid h
    have H40 := Lib.hid h40
    have HG := Lib.hid hgl
    clear hp hlen hgl h h40
    go_enter Try.func19, Try.ntmps19
    go_wp2_with fail
    refine PO.out.mono ?_
    rintro x w' ⟨rfl, rfl⟩
    clear PO
    go_wp2_with fail
    go_loopw [10, 11] (fun v10 v23 wr => ∃ (j : Nat), ∃ rs' : List (Option Addr × Nat × List C.Gl), v23 = .int .i64 j ∧ j ≤ rs.length ∧ Hid (rs'.map (·.2.2) = (List.range j).map (V.rowAt gl t e k)) ∧ Hid (C.RI w wr j v10 rs')) (fun _ v23 _ => rs.length - (intOf v23).toNat)
    case atStart => exact ⟨0, [], rfl, Nat.zero_le _, Lib.hid rfl, Lib.hid (C.RI.nil2 w)⟩
    case round =>
      obtain ⟨j, rs', rfl, hjr, hrs, hri⟩ := hrel
      by_cases hlt : j < rs.length
      · obtain ⟨b, off, rfl, hb, hc⟩ := HV.out.at_ (by omega)
        have hbe := hri.out.bel
        have q1 : (0 : Int) ≤ (j : Int) := by omega
        have q2 : (j : Int) < (rs.length : Int) := by omega
        have x0 := (hbe.cell (p := ⟨b, off + j, none⟩) (Nat.lt_of_lt_of_le hb hB)).trans (hc j hlt)
        have hbs := hbe.size
        by_cases c1 : t ≤ (j : Int)
        · by_cases c2 : (j : Int) < e
          · by_cases c3 : t ≤ (j : Int) + k
            · by_cases c4 : (j : Int) + k < e
              · skip
                obtain ⟨m, hm⟩ : ∃ m : Nat, (j : Int) + k = m := ⟨((j : Int) + k).toNat, by omega⟩
                have hml : m < rs.length := by omega
                have u1 : IntKind.i64.wrap ((j : Int) + k) = m := by rw [hm]; simp [IntKind.wrap, IntKind.bits, IntKind.signed]; omega
                have HM := Lib.hid hm
                have q3 : (0 : Int) ≤ (m : Int) := by omega
                have q4 : (m : Int) < (rs.length : Int) := by omega
                have g3 : t ≤ (m : Int) := by omega
                have g4 : (m : Int) < e := by omega
                have x1 := (hbe.cell (p := ⟨b, off + m, none⟩) (Nat.lt_of_lt_of_le hb hB)).trans (hc m hml)
                clear hm c3 c4

                have h0 : Hid (∀ A1 c1, ((A1, c1, rs[m].2.2) : Option Addr × Nat × List C.Gl).2.2 = V.rowAt gl t e k j) := Lib.hid (fun _ _ => by rw [V.rowAt_in ⟨c1, c2⟩ (by have := HM.out; omega), HM.out, ← HG.out]; exact (C.gl_get rs hml).symm)
                have RD := Lib.hid ((((HV.out.each rs[m] (List.getElem_mem hml)).1.below hbe hB).alloc (Nat.le_trans hB hbe.size) (.cells #[] 44)))
                have h40 := H40.out rs[m] (List.getElem_mem hml)
                have HZ := Lib.hid (HV.out.each rs[m] (List.getElem_mem hml)).2.2
                have xm := (World.cell?_alloc_lt wr (.cells #[] 44) ⟨b, off + m, none⟩ (by show b < _; omega)).trans x1
                have own0 := World.ownsRow_lit (base := wr.heap.size) (e := 44) (size := 3) wr #[] 0 (Nat.le_refl _) (by decide) rfl
                have hb0 : Below wr.heap.size wr (wr.alloc (.cells #[] 44)) := (Below.refl _ _).alloc (Nat.le_refl _) _
                clear hc hbe
                generalize rs[j] = r at *
                generalize rs[m] = r' at *
                go_wp2_with (first | (at_builtin; refine wpList_append_any _ rfl (.tmp 61) (.tmp 67) 27 rfl wr.heap.size 44 j0 _ 3 32 Try.underlying27 hj hj0 hj1 hj2 rfl (by decide) (.slice (some ⟨wr.heap.size, 0, none⟩) 0 0) 0 [] rfl own0 B r'.1 r'.2.2.length r'.2.1 _ rfl RD.out (C.gl_one _) (by simp only [maxLen]; omega) (by omega) hb0.size ?_; intro v1 w1 hown1 hg1 hat1; obtain ⟨A1, c1', rfl, hrw⟩ := C.Rw.of_own (l := r'.2.2) (by simpa using hown1) (by omega) (by simp only [maxLen]; omega) HZ.out; have hb1 : Below wr.heap.size wr w1 := hb0.grown hg1 hb0.size (own_below own0 (Nat.le_refl _)); have hown := (own_under hri.out.own hb1).alloc (.cells #[.slice A1 r'.2.2.length c1'] 27); have hsz := hb1.size; clear hown1 hg1 hat1 own0) | (at_builtin; refine wpList_append_any _ rfl (.tmp 60) (.tmp 69) 22 rfl w.heap.size 27 i0 _ 1 24 Try.underlying22 hi hz0 hz1 hz2 rfl (by decide) u10 _ _ rfl hown _ _ 1 1 [.slice A1 r'.2.2.length c1'] rfl (reads_new _ [.slice A1 r'.2.2.length c1'] 27) (by simp [Value.oneCell']) (by simp only [maxLen]; omega) (by omega) (by simp; omega) ?_; intro v' W2 hown' hgrow hnew))
                have hri2 := Lib.hid (hri.out.push (r0 := (A1, c1', r'.2.2)) hb1 hrw hown' hgrow)
                have hrs2 := Lib.hid (C.rows_step (r0 := (A1, c1', r'.2.2)) hrs.out (h0.out A1 c1'))
                clear hown hown' hgrow hnew hb1 hrw h0 hri hrs hsz
                go_wp2
                go_roundw
                case rel => exact ⟨j + 1, _, by go_num, hlt, hrs2, hri2⟩
                case measure => simp [intOf] <;> omega
              · skip
                obtain ⟨f, hf⟩ : ∃ f : Int, (j : Int) + k = f := ⟨_, rfl⟩
                have u1 : IntKind.i64.wrap ((j : Int) + k) = f := by rw [← hf]; simp [IntKind.wrap, IntKind.bits, IntKind.signed]; omega
                have g3 : t ≤ f := by omega
                have g4 : ¬ f < e := by omega

                have h0 : Hid ((((none : Option Addr), (0 : Nat), ([] : List C.Gl)) : Option Addr × Nat × List C.Gl).2.2 = V.rowAt gl t e k j) := Lib.hid (by rw [V.rowAt_lost ⟨c1, c2⟩ (by omega)])
                have hown := hri.out.own.alloc (.cells #[.slice none 0 0] 27)
                clear hc hbe hf c3 c4
                generalize rs[j] = r at *
                go_wp2_with (at_builtin; refine wpList_append_any _ rfl (.tmp 26) (.tmp 27) 22 rfl w.heap.size 27 i0 _ 1 24 Try.underlying22 hi hz0 hz1 hz2 rfl (by decide) u10 _ _ rfl hown _ _ 1 1 [.slice none 0 0] rfl (reads_new _ [.slice none 0 0] 27) (by simp [Value.oneCell']) (by simp only [maxLen]; omega) (by omega) (by simp; omega) ?_; intro v' W2 hown' hgrow hnew)
                have hri2 := Lib.hid (hri.out.push (r0 := (none, 0, [])) (Below.refl _ _) (C.Rw.nil _) hown' hgrow)
                have hrs2 := Lib.hid (C.rows_step (r0 := (none, 0, [])) hrs.out h0.out)
                clear hown hown' hgrow hnew h0 hri hrs
                go_wp2
                go_roundw
                case rel => exact ⟨j + 1, _, by go_num, hlt, hrs2, hri2⟩
                case measure => simp [intOf] <;> omega
            · skip
              obtain ⟨f, hf⟩ : ∃ f : Int, (j : Int) + k = f := ⟨_, rfl⟩
              have u1 : IntKind.i64.wrap ((j : Int) + k) = f := by rw [← hf]; simp [IntKind.wrap, IntKind.bits, IntKind.signed]; omega
              have g3 : ¬ t ≤ f := by omega

              have h0 : Hid ((((none : Option Addr), (0 : Nat), ([] : List C.Gl)) : Option Addr × Nat × List C.Gl).2.2 = V.rowAt gl t e k j) := Lib.hid (by rw [V.rowAt_lost ⟨c1, c2⟩ (by omega)])
              have hown := hri.out.own.alloc (.cells #[.slice none 0 0] 27)
              clear hc hbe hf c3
              generalize rs[j] = r at *
              go_wp2_with (at_builtin; refine wpList_append_any _ rfl (.tmp 26) (.tmp 27) 22 rfl w.heap.size 27 i0 _ 1 24 Try.underlying22 hi hz0 hz1 hz2 rfl (by decide) u10 _ _ rfl hown _ _ 1 1 [.slice none 0 0] rfl (reads_new _ [.slice none 0 0] 27) (by simp [Value.oneCell']) (by simp only [maxLen]; omega) (by omega) (by simp; omega) ?_; intro v' W2 hown' hgrow hnew)
              have hri2 := Lib.hid (hri.out.push (r0 := (none, 0, [])) (Below.refl _ _) (C.Rw.nil _) hown' hgrow)
              have hrs2 := Lib.hid (C.rows_step (r0 := (none, 0, [])) hrs.out h0.out)
              clear hown hown' hgrow hnew h0 hri hrs
              go_wp2
              go_roundw
              case rel => exact ⟨j + 1, _, by go_num, hlt, hrs2, hri2⟩
              case measure => simp [intOf] <;> omega
          · skip
            have h0 : Hid (∀ A1 c1, ((A1, c1, rs[j].2.2) : Option Addr × Nat × List C.Gl).2.2 = V.rowAt gl t e k j) := Lib.hid (fun _ _ => by rw [V.rowAt_out (by omega), ← HG.out]; exact (C.gl_get rs hlt).symm)
            have RD := Lib.hid ((((HV.out.each rs[j] (List.getElem_mem hlt)).1.below hbe hB).alloc (Nat.le_trans hB hbe.size) (.cells #[] 44)))
            have h40 := H40.out rs[j] (List.getElem_mem hlt)
            have HZ := Lib.hid (HV.out.each rs[j] (List.getElem_mem hlt)).2.2
            have xm := (World.cell?_alloc_lt wr (.cells #[] 44) ⟨b, off + j, none⟩ (by show b < _; omega)).trans x0
            have own0 := World.ownsRow_lit (base := wr.heap.size) (e := 44) (size := 3) wr #[] 0 (Nat.le_refl _) (by decide) rfl
            have hb0 : Below wr.heap.size wr (wr.alloc (.cells #[] 44)) := (Below.refl _ _).alloc (Nat.le_refl _) _
            clear hc hbe
            generalize rs[j] = r at *
            go_wp2_with (first | (at_builtin; refine wpList_append_any _ rfl (.tmp 39) (.tmp 43) 27 rfl wr.heap.size 44 j0 _ 3 32 Try.underlying27 hj hj0 hj1 hj2 rfl (by decide) (.slice (some ⟨wr.heap.size, 0, none⟩) 0 0) 0 [] rfl own0 B r.1 r.2.2.length r.2.1 _ rfl RD.out (C.gl_one _) (by simp only [maxLen]; omega) (by omega) hb0.size ?_; intro v1 w1 hown1 hg1 hat1; obtain ⟨A1, c1', rfl, hrw⟩ := C.Rw.of_own (l := r.2.2) (by simpa using hown1) (by omega) (by simp only [maxLen]; omega) HZ.out; have hb1 : Below wr.heap.size wr w1 := hb0.grown hg1 hb0.size (own_below own0 (Nat.le_refl _)); have hown := (own_under hri.out.own hb1).alloc (.cells #[.slice A1 r.2.2.length c1'] 27); have hsz := hb1.size; clear hown1 hg1 hat1 own0) | (at_builtin; refine wpList_append_any _ rfl (.tmp 38) (.tmp 45) 22 rfl w.heap.size 27 i0 _ 1 24 Try.underlying22 hi hz0 hz1 hz2 rfl (by decide) u10 _ _ rfl hown _ _ 1 1 [.slice A1 r.2.2.length c1'] rfl (reads_new _ [.slice A1 r.2.2.length c1'] 27) (by simp [Value.oneCell']) (by simp only [maxLen]; omega) (by omega) (by simp; omega) ?_; intro v' W2 hown' hgrow hnew))
            have hri2 := Lib.hid (hri.out.push (r0 := (A1, c1', r.2.2)) hb1 hrw hown' hgrow)
            have hrs2 := Lib.hid (C.rows_step (r0 := (A1, c1', r.2.2)) hrs.out (h0.out A1 c1'))
            clear hown hown' hgrow hnew hb1 hrw h0 hri hrs hsz
            go_wp2
            go_roundw
            case rel => exact ⟨j + 1, _, by go_num, hlt, hrs2, hri2⟩
            case measure => simp [intOf] <;> omega
        · skip
          have h0 : Hid (∀ A1 c1, ((A1, c1, rs[j].2.2) : Option Addr × Nat × List C.Gl).2.2 = V.rowAt gl t e k j) := Lib.hid (fun _ _ => by rw [V.rowAt_out (by omega), ← HG.out]; exact (C.gl_get rs hlt).symm)
          have RD := Lib.hid ((((HV.out.each rs[j] (List.getElem_mem hlt)).1.below hbe hB).alloc (Nat.le_trans hB hbe.size) (.cells #[] 44)))
          have h40 := H40.out rs[j] (List.getElem_mem hlt)
          have HZ := Lib.hid (HV.out.each rs[j] (List.getElem_mem hlt)).2.2
          have xm := (World.cell?_alloc_lt wr (.cells #[] 44) ⟨b, off + j, none⟩ (by show b < _; omega)).trans x0
          have own0 := World.ownsRow_lit (base := wr.heap.size) (e := 44) (size := 3) wr #[] 0 (Nat.le_refl _) (by decide) rfl
          have hb0 : Below wr.heap.size wr (wr.alloc (.cells #[] 44)) := (Below.refl _ _).alloc (Nat.le_refl _) _
          clear hc hbe
          generalize rs[j] = r at *
          go_wp2_with (first | (at_builtin; refine wpList_append_any _ rfl (.tmp 39) (.tmp 43) 27 rfl wr.heap.size 44 j0 _ 3 32 Try.underlying27 hj hj0 hj1 hj2 rfl (by decide) (.slice (some ⟨wr.heap.size, 0, none⟩) 0 0) 0 [] rfl own0 B r.1 r.2.2.length r.2.1 _ rfl RD.out (C.gl_one _) (by simp only [maxLen]; omega) (by omega) hb0.size ?_; intro v1 w1 hown1 hg1 hat1; obtain ⟨A1, c1', rfl, hrw⟩ := C.Rw.of_own (l := r.2.2) (by simpa using hown1) (by omega) (by simp only [maxLen]; omega) HZ.out; have hb1 : Below wr.heap.size wr w1 := hb0.grown hg1 hb0.size (own_below own0 (Nat.le_refl _)); have hown := (own_under hri.out.own hb1).alloc (.cells #[.slice A1 r.2.2.length c1'] 27); have hsz := hb1.size; clear hown1 hg1 hat1 own0) | (at_builtin; refine wpList_append_any _ rfl (.tmp 38) (.tmp 45) 22 rfl w.heap.size 27 i0 _ 1 24 Try.underlying22 hi hz0 hz1 hz2 rfl (by decide) u10 _ _ rfl hown _ _ 1 1 [.slice A1 r.2.2.length c1'] rfl (reads_new _ [.slice A1 r.2.2.length c1'] 27) (by simp [Value.oneCell']) (by simp only [maxLen]; omega) (by omega) (by simp; omega) ?_; intro v' W2 hown' hgrow hnew))
          have hri2 := Lib.hid (hri.out.push (r0 := (A1, c1', r.2.2)) hb1 hrw hown' hgrow)
          have hrs2 := Lib.hid (C.rows_step (r0 := (A1, c1', r.2.2)) hrs.out (h0.out A1 c1'))
          clear hown hown' hgrow hnew hb1 hrw h0 hri hrs hsz
          go_wp2
          go_roundw
          case rel => exact ⟨j + 1, _, by go_num, hlt, hrs2, hri2⟩
          case measure => simp [intOf] <;> omega
      · obtain rfl : j = rs.length := by omega
        clear hj hj0 hj1 hj2
        obtain ⟨A', c', rfl, hrv⟩ := hri.out.fin (by simp only [maxLen]; omega)
        have HB := Lib.hid hri.out.bel
        have HV2 := Lib.hid hrv
        have HL2 : Hid (rs'.length = rs.length) := Lib.hid hri.out.len
        have HR : Hid (rs'.map (·.2.2) = V.rows gl t e k) := Lib.hid (by rw [hrs.out]; unfold V.rows; rw [HL.out])
        clear hrv
        go_wp2_with fail
        go_ret2
        exact ⟨HB.out, .inr ⟨HP.out, A', c', rs', rfl, HV2.out, HR.out⟩⟩

end Go.Proofs.Ythohninbelhddaa
