/-
  The walks of layer 18: Rows, the program's and the reference's. By an AI agent.
-/
import Derived.Lib.SliceRun
import Derived.Test.YthohninbelhddaaOf
import Derived.Test.YthohninbelhddaaGrow
namespace Go.Proofs.Ythohninbelhddaa
open Go.RowKit

attribute [local go_sem] guard44

theorem infoGl : (Try.prog.info? 44).map (fun i => (i.zero, i.size, i.bytes)) = some (some (.agg #[.string ByteArray.empty, .bool false, .int .i64 0]), 3, 32) := by kernel_rfl
theorem C.gl_one (gs : List C.Gl) : ∀ u ∈ gs.flatMap C.Gl.cells, u.oneCell' = true := by
  intro u hu
  simp only [List.mem_flatMap, C.Gl.cells] at hu
  obtain ⟨g, _, hg⟩ := hu
  simp at hg
  rcases hg with rfl | rfl | rfl <;> rfl

theorem C.Rw.of_own {w : World} {base n : Nat} {v : Value} {l : List C.Gl} (h : w.ownsRow base 44 3 v n (l.flatMap C.Gl.cells)) (hn : n = l.length) (hl : l.length ≤ maxLen) (hz : ∀ g ∈ l, g.t.size ≤ maxLen) :
    ∃ A c, v = .slice A l.length c ∧ C.Rw w (A, c, l) := by
  subst hn
  rcases h.2 with ⟨rfl, h0⟩ | ⟨g, cap, cur, rfl, hbg, hg, hnc, hcm, hcs, htake⟩
  · exact ⟨none, 0, by rw [h0], fun hp => absurd hp (by show ¬ 0 < l.length; omega), hl, hz⟩
  · refine ⟨_, _, rfl, fun hp => ⟨g, cur, rfl, by simpa using hg, fun j u hu => ?_⟩, hl, hz⟩
    rw [← htake, List.getElem?_take] at hu
    split at hu
    · simpa using hu
    · cases hu
theorem C.Rw.nil (w : World) : C.Rw w (none, 0, []) := ⟨fun h => absurd h (by decide), by decide, fun g h => absurd h (by simp)⟩

/-- A row of glyphs that the call made. -/
def C.RowOut (l : List C.Gl) (w w' : World) (e : Ending) : Prop := ∃ A c, e = .returned (.slice A l.length c) ∧ C.Rw w' (A, c, l) ∧ Below w.heap.size w w'

set_option maxHeartbeats 2000000 in
theorem clone_any (A : Option Addr) (cap B : Nat) (l : List C.Gl) (w : World) (hr : Reads w B 3 A l.length (l.flatMap C.Gl.cells)) (hB : B ≤ w.heap.size) (hl : l.length ≤ 1000) (hz : ∀ g ∈ l, g.t.size ≤ maxLen) :
    Calls Try.prog 29 #[.slice A l.length cap] w fun e w' => C.RowOut l w w' e := by
  have hq := fun w A n => Lib.run_eql_slice_nil (P := Try.prog) w 27 44 A n cap 0 0 Try.underlying27
  have HZ := Lib.hid hz
  clear hz
  cases A with
  | none =>
    have h0 : l.length = 0 := by
      rcases Nat.eq_zero_or_pos l.length with h | h
      · exact h
      · obtain ⟨ad, h, _⟩ := hr.2 h; cases h
    have : l = [] := List.eq_nil_of_length_eq_zero h0
    subst this
    clear hr h0
    go_enter Try.func29, Try.ntmps29
    go_wp2
    go_ret
    exact ⟨_, _, rfl, C.Rw.nil _, Below.refl _ _⟩
  | some ad =>
    have HR1 := (hr.alloc hB (.cells #[] 44))
    have own0 := World.ownsRow_lit (base := w.heap.size) (e := 44) (size := 3) w #[] 0 (Nat.le_refl _) (by decide) rfl
    have hb0 : Below w.heap.size w (w.alloc (.cells #[] 44)) := (Below.refl _ _).alloc (Nat.le_refl _) _
    obtain ⟨i0, hi0, hz0, hz1, hz2⟩ := info_parts infoGl
    clear hr
    go_enter Try.func29, Try.ntmps29
    go_wp2_with (at_builtin; refine wpList_append_any _ rfl (.tmp 5) (.tmp 6) _ rfl w.heap.size 44 i0 _ 3 32 Try.underlying27 hi0 hz0 hz1 hz2 rfl (by omega) (.slice (some ⟨w.heap.size, 0, none⟩) 0 0) 0 [] rfl own0 B (some ad) l.length cap _ rfl HR1 (C.gl_one _) (by simp only [maxLen]; omega) (by omega) hb0.size ?_; intro v1 w1 hown1 hg1 hat1)
    obtain ⟨A1, c1, rfl, hrw⟩ := C.Rw.of_own (l := l) (by simpa using hown1) (by omega) (by simp only [maxLen]; omega) HZ.out
    go_ret
    exact ⟨A1, c1, rfl, hrw, hb0.grown hg1 hb0.size (own_below own0 (Nat.le_refl _))⟩

/-- Rows under construction. -/
structure C.RI (w wr : World) (k : Nat) (v : Value) (rs : List (Option Addr × Nat × List C.Gl)) : Prop where
  own : wr.ownsRow w.heap.size 27 1 v k (rs.map C.slv)
  len : rs.length = k
  rws : ∀ r ∈ rs, C.Rw wr r
  bel : Below w.heap.size w wr
theorem C.RI.nil (w : World) : C.RI w w 0 (.slice none 0 0) [] := ⟨World.ownsRow_nil _ _ _ _, rfl, fun r h => absurd h (by simp), Below.refl _ _⟩
theorem C.RI.push {w wr W1 W2 : World} {k : Nat} {v v' : Value} {rs : List (Option Addr × Nat × List C.Gl)} {r0 : Option Addr × Nat × List C.Gl} (h : C.RI w wr k v rs) (hb : Below wr.heap.size wr W1) (hr0 : C.Rw W1 r0)
    (hown : W2.ownsRow w.heap.size 27 1 v' (k + 1) (rs.map C.slv ++ [C.slv r0])) (hg : (W1.alloc (.cells #[C.slv r0] 27)).grownBy W2 v.ownBlock) : C.RI w W2 (k + 1) v' (rs ++ [r0]) := by
  have h1 := own_under h.own hb
  have keep : ∀ (b : Nat) (cs : Array Value), W1.heap[b]? = some (.cells cs 44 (0, 0)) → W2.heap[b]? = W1.heap[b]? := fun b cs hb' => by
    have hl := (Array.getElem?_eq_some_iff.1 hb').1
    have hbg : (W1.alloc (.cells #[C.slv r0] 27)).heap[b]? = W1.heap[b]? := Below.heap_alloc _ _ _ hl
    exact (hg.block b (by simp; omega) (C.not44 h1 (by decide) hb')).trans hbg
  refine ⟨by simpa using hown, by simp [h.len], fun r hr => ?_, ?_⟩
  · rcases List.mem_append.1 hr with hr | hr
    · exact ((h.rws r hr).kept fun b cs hb' => hb.block b (Array.getElem?_eq_some_iff.1 hb').1).kept keep
    · simp only [List.mem_cons, List.not_mem_nil, or_false] at hr
      subst hr
      exact hr0.kept keep
  · have hs := h.bel.size
    have hs1 := hb.size
    exact ((h.bel.trans (hb.mono hs)).alloc (by omega) _).grown hg (by simp; omega) (fun b e => (h.own.lt b e).1)
theorem C.RI.fin {w wr : World} {k : Nat} {v : Value} {rs : List (Option Addr × Nat × List C.Gl)} (h : C.RI w wr k v rs) (hk : k ≤ maxLen) : ∃ A c, v = .slice A rs.length c ∧ C.Rv wr wr.heap.size A rs := by
  have hl := h.len
  subst hl
  obtain ⟨A, c, rfl, hr⟩ := own_reads h.own
  exact ⟨A, c, rfl, hr, fun r hr' => ⟨(h.rws r hr').reads, (h.rws r hr').len, (h.rws r hr').sz⟩, hk⟩

/-- The answers of Rows. -/
def C.RowsOut (g : List (List C.Gl)) (t e k : Int) (w w' : World) (x : Ending) : Prop := Below w.heap.size w w' ∧
  ((V.possB g.length t e k = false ∧ ∃ A c, x = .returned (.tuple #[.slice A 0 c, .int .i64 2])) ∨
   (V.possB g.length t e k = true ∧ ∃ A c, ∃ rs : List (Option Addr × Nat × List C.Gl), x = .returned (.tuple #[.slice A rs.length c, .int .i64 0]) ∧ C.Rv w' w'.heap.size A rs ∧ rs.map (·.2.2) = V.rows g t e k))
theorem C.rows_step {g : List (List C.Gl)} {t e k : Int} {j : Nat} {rs : List (Option Addr × Nat × List C.Gl)} (h : rs.map (·.2.2) = (List.range j).map (V.rowAt g t e k)) {r0 : Option Addr × Nat × List C.Gl} (h0 : r0.2.2 = V.rowAt g t e k j) :
    (rs ++ [r0]).map (·.2.2) = (List.range (j + 1)).map (V.rowAt g t e k) := by
  rw [List.map_append, h, List.range_succ, List.map_append]
  simp [h0]

set_option maxRecDepth 10000 in
set_option maxHeartbeats 4000000 in
theorem Rows_any (B : Nat) (A : Option Addr) (c : Nat) (rs : List (Option Addr × Nat × List C.Gl)) (t e k : Int) (w : World) (h : C.Rv w B A rs) (hB : B ≤ w.heap.size) (hl : rs.length ≤ 1000) (h40 : ∀ r ∈ rs, r.2.2.length ≤ 1000) :
    Calls Try.prog 18 #[.slice A rs.length c, .int .i64 t, .int .i64 e, .int .i64 k] w fun x w' => C.RowsOut (rs.map (·.2.2)) t e k w w' x := by
  have PO := Lib.hid (possible_any rs.length t e k w (by simp only [maxLen]; omega))
  have hlen : (rs.map (·.2.2)).length = rs.length := by simp
  obtain ⟨gl, hgl⟩ : ∃ gl, rs.map (·.2.2) = gl := ⟨_, rfl⟩
  rw [hgl] at hlen ⊢
  cases hp : V.possB rs.length t e k with
  | false =>
    rw [hp] at PO
    have HP : Hid (V.possB gl.length t e k = false) := Lib.hid (by rw [hlen]; exact hp)
    clear hp hlen hgl h h40
    go_enter Try.func18, Try.ntmps18
    go_wp2_with fail
    refine PO.out.mono ?_
    rintro x w' ⟨rfl, rfl⟩
    go_wp2_with fail
    go_ret2
    exact ⟨Below.refl _ _, .inl ⟨HP.out, _, _, rfl⟩⟩
  | true =>
    rw [hp] at PO
    have HP : Hid (V.possB gl.length t e k = true) := Lib.hid (by rw [hlen]; exact hp)
    obtain ⟨p1, p2, p3, p4, p5, p6⟩ := of_decide_eq_true hp
    obtain ⟨i0, hi, hz0, hz1, hz2⟩ := info_parts infoRow
    have HL := Lib.hid hlen
    have HV := Lib.hid h
    have H40 := Lib.hid h40
    have HG := Lib.hid hgl
    have CL : Hid (∀ r ∈ rs, ∀ w', Below w.heap.size w w' → Calls Try.prog 29 #[.slice r.1 r.2.2.length r.2.1] w' fun e' w'' => C.RowOut r.2.2 w' w'' e') := Lib.hid (fun r hr w' hb' => clone_any r.1 r.2.1 B r.2.2 w' ((h.each r hr).1.below hb' hB) (Nat.le_trans hB hb'.size) (h40 r hr) (h.each r hr).2.2)
    have CN : Hid (∀ w', Calls Try.prog 29 #[.slice none 0 0] w' fun e' w'' => C.RowOut [] w' w'' e') := Lib.hid (fun w' => clone_any none 0 0 [] w' Reads.none_ (Nat.zero_le _) (by decide) (by simp))
    clear hp hlen hgl h h40
    go_enter Try.func18, Try.ntmps18
    go_wp2_with fail
    refine PO.out.mono ?_
    rintro x w' ⟨rfl, rfl⟩
    clear PO
    go_wp2_with fail
    go_loopw [10, 23] (fun v10 v23 wr => ∃ (j : Nat), ∃ rs' : List (Option Addr × Nat × List C.Gl), v23 = .int .i64 j ∧ j ≤ rs.length ∧ Hid (rs'.map (·.2.2) = (List.range j).map (V.rowAt gl t e k)) ∧ Hid (C.RI w wr j v10 rs')) (fun _ v23 _ => rs.length - (intOf v23).toNat)
    case atStart => exact ⟨0, [], rfl, Nat.zero_le _, Lib.hid rfl, Lib.hid (C.RI.nil w)⟩
    case round =>
      obtain ⟨j, rs', rfl, hj, hrs, hri⟩ := hrel
      by_cases hlt : j < rs.length
      · obtain ⟨b, off, rfl, hb, hc⟩ := HV.out.at_ (by omega)
        have hbe := hri.out.bel
        have q1 : (0 : Int) ≤ (j : Int) := by omega
        have q2 : (j : Int) < (rs.length : Int) := by omega
        have x0 := (hbe.cell (p := ⟨b, off + j, none⟩) (Nat.lt_of_lt_of_le hb hB)).trans (hc j hlt)
        have hbs := hbe.size
        by_cases c1 : t ≤ (j : Int)
        · by_cases c2 : (j : Int) < e
          · by_cases c3 : t ≤ (j : Int) + k
            · by_cases c4 : (j : Int) + k < e
              · skip
                obtain ⟨m, hm⟩ : ∃ m : Nat, (j : Int) + k = m := ⟨((j : Int) + k).toNat, by omega⟩
                have hml : m < rs.length := by omega
                have u1 : IntKind.i64.wrap ((j : Int) + k) = m := by rw [hm]; simp [IntKind.wrap, IntKind.bits, IntKind.signed]; omega
                have HM := Lib.hid hm
                have q3 : (0 : Int) ≤ (m : Int) := by omega
                have q4 : (m : Int) < (rs.length : Int) := by omega
                have g3 : t ≤ (m : Int) := by omega
                have g4 : (m : Int) < e := by omega
                have x1 := (hbe.cell (p := ⟨b, off + m, none⟩) (Nat.lt_of_lt_of_le hb hB)).trans (hc m hml)
                clear hm c3 c4

                have h0 : Hid (∀ A1 c1, ((A1, c1, rs[m].2.2) : Option Addr × Nat × List C.Gl).2.2 = V.rowAt gl t e k j) := Lib.hid (fun _ _ => by rw [V.rowAt_in ⟨c1, c2⟩ (by have := HM.out; omega), HM.out, ← HG.out]; exact (C.gl_get rs hml).symm)
                have hcl := Lib.hid (CL.out rs[m] (List.getElem_mem hml) wr hbe)
                clear hc hbe
                generalize rs[j] = r at *
                generalize rs[m] = r' at *
                go_wp2_with fail
                refine hcl.out.mono ?_
                rintro e' w1 ⟨A1, c1', rfl, hrw, hb1⟩
                have hown := (own_under hri.out.own hb1).alloc (.cells #[.slice A1 r'.2.2.length c1'] 27)
                have hsz := hb1.size
                clear hcl
                go_wp2_with (at_builtin; refine wpList_append_any _ rfl (.tmp 51) (.tmp 54) 22 rfl w.heap.size 27 i0 _ 1 24 Try.underlying22 hi hz0 hz1 hz2 rfl (by decide) u10 _ _ rfl hown _ _ 1 1 [.slice A1 r'.2.2.length c1'] rfl (reads_new _ [.slice A1 r'.2.2.length c1'] 27) (by simp [Value.oneCell']) (by simp only [maxLen]; omega) (by omega) (by simp; omega) ?_; intro v' W2 hown' hgrow hnew)
                have hri2 := Lib.hid (hri.out.push (r0 := (A1, c1', r'.2.2)) hb1 hrw hown' hgrow)
                have hrs2 := Lib.hid (C.rows_step (r0 := (A1, c1', r'.2.2)) hrs.out (h0.out A1 c1'))
                clear hown hown' hgrow hnew hb1 hrw h0 hri hrs hsz
                go_wp2
                go_roundw
                case rel => exact ⟨j + 1, _, by go_num, hlt, hrs2, hri2⟩
                case measure => simp [intOf] <;> omega
              · skip
                obtain ⟨f, hf⟩ : ∃ f : Int, (j : Int) + k = f := ⟨_, rfl⟩
                have u1 : IntKind.i64.wrap ((j : Int) + k) = f := by rw [← hf]; simp [IntKind.wrap, IntKind.bits, IntKind.signed]; omega
                have HC4 := Lib.hid c4
                have g3 : t ≤ f := by omega
                have g4 : ¬ f < e := by omega

                have h0 : Hid (∀ A1 c1, ((A1, c1, []) : Option Addr × Nat × List C.Gl).2.2 = V.rowAt gl t e k j) := Lib.hid (fun _ _ => by rw [V.rowAt_lost ⟨c1, c2⟩ (by omega)])
                have hcl := Lib.hid (CN.out wr)
                clear hc hbe hf c3 c4
                generalize rs[j] = r at *
                go_wp2_with fail
                refine hcl.out.mono ?_
                rintro e' w1 ⟨A1, c1', rfl, hrw, hb1⟩
                have hown := (own_under hri.out.own hb1).alloc (.cells #[.slice A1 0 c1'] 27)
                have hsz := hb1.size
                clear hcl
                go_wp2_with (at_builtin; refine wpList_append_any _ rfl (.tmp 51) (.tmp 54) 22 rfl w.heap.size 27 i0 _ 1 24 Try.underlying22 hi hz0 hz1 hz2 rfl (by decide) u10 _ _ rfl hown _ _ 1 1 [.slice A1 0 c1'] rfl (reads_new _ [.slice A1 0 c1'] 27) (by simp [Value.oneCell']) (by simp only [maxLen]; omega) (by omega) (by simp; omega) ?_; intro v' W2 hown' hgrow hnew)
                have hri2 := Lib.hid (hri.out.push (r0 := (A1, c1', [])) hb1 hrw hown' hgrow)
                have hrs2 := Lib.hid (C.rows_step (r0 := (A1, c1', [])) hrs.out (h0.out A1 c1'))
                clear hown hown' hgrow hnew hb1 hrw h0 hri hrs hsz
                go_wp2
                go_roundw
                case rel => exact ⟨j + 1, _, by go_num, hlt, hrs2, hri2⟩
                case measure => simp [intOf] <;> omega
            · skip
              obtain ⟨f, hf⟩ : ∃ f : Int, (j : Int) + k = f := ⟨_, rfl⟩
              have u1 : IntKind.i64.wrap ((j : Int) + k) = f := by rw [← hf]; simp [IntKind.wrap, IntKind.bits, IntKind.signed]; omega
              have g3 : ¬ t ≤ f := by omega

              have h0 : Hid (∀ A1 c1, ((A1, c1, []) : Option Addr × Nat × List C.Gl).2.2 = V.rowAt gl t e k j) := Lib.hid (fun _ _ => by rw [V.rowAt_lost ⟨c1, c2⟩ (by omega)])
              have hcl := Lib.hid (CN.out wr)
              clear hc hbe hf c3
              generalize rs[j] = r at *
              go_wp2_with fail
              refine hcl.out.mono ?_
              rintro e' w1 ⟨A1, c1', rfl, hrw, hb1⟩
              have hown := (own_under hri.out.own hb1).alloc (.cells #[.slice A1 0 c1'] 27)
              have hsz := hb1.size
              clear hcl
              go_wp2_with (at_builtin; refine wpList_append_any _ rfl (.tmp 51) (.tmp 54) 22 rfl w.heap.size 27 i0 _ 1 24 Try.underlying22 hi hz0 hz1 hz2 rfl (by decide) u10 _ _ rfl hown _ _ 1 1 [.slice A1 0 c1'] rfl (reads_new _ [.slice A1 0 c1'] 27) (by simp [Value.oneCell']) (by simp only [maxLen]; omega) (by omega) (by simp; omega) ?_; intro v' W2 hown' hgrow hnew)
              have hri2 := Lib.hid (hri.out.push (r0 := (A1, c1', [])) hb1 hrw hown' hgrow)
              have hrs2 := Lib.hid (C.rows_step (r0 := (A1, c1', [])) hrs.out (h0.out A1 c1'))
              clear hown hown' hgrow hnew hb1 hrw h0 hri hrs hsz
              go_wp2
              go_roundw
              case rel => exact ⟨j + 1, _, by go_num, hlt, hrs2, hri2⟩
              case measure => simp [intOf] <;> omega
          · skip
            have h0 : Hid (∀ A1 c1, ((A1, c1, rs[j].2.2) : Option Addr × Nat × List C.Gl).2.2 = V.rowAt gl t e k j) := Lib.hid (fun _ _ => by rw [V.rowAt_out (by omega), ← HG.out]; exact (C.gl_get rs hlt).symm)
            have hcl := Lib.hid (CL.out rs[j] (List.getElem_mem hlt) wr hbe)
            clear hc hbe
            generalize rs[j] = r at *
            go_wp2_with fail
            refine hcl.out.mono ?_
            rintro e' w1 ⟨A1, c1', rfl, hrw, hb1⟩
            have hown := (own_under hri.out.own hb1).alloc (.cells #[.slice A1 r.2.2.length c1'] 27)
            have hsz := hb1.size
            clear hcl
            go_wp2_with (at_builtin; refine wpList_append_any _ rfl (.tmp 51) (.tmp 54) 22 rfl w.heap.size 27 i0 _ 1 24 Try.underlying22 hi hz0 hz1 hz2 rfl (by decide) u10 _ _ rfl hown _ _ 1 1 [.slice A1 r.2.2.length c1'] rfl (reads_new _ [.slice A1 r.2.2.length c1'] 27) (by simp [Value.oneCell']) (by simp only [maxLen]; omega) (by omega) (by simp; omega) ?_; intro v' W2 hown' hgrow hnew)
            have hri2 := Lib.hid (hri.out.push (r0 := (A1, c1', r.2.2)) hb1 hrw hown' hgrow)
            have hrs2 := Lib.hid (C.rows_step (r0 := (A1, c1', r.2.2)) hrs.out (h0.out A1 c1'))
            clear hown hown' hgrow hnew hb1 hrw h0 hri hrs hsz
            go_wp2
            go_roundw
            case rel => exact ⟨j + 1, _, by go_num, hlt, hrs2, hri2⟩
            case measure => simp [intOf] <;> omega
        · skip
          have h0 : Hid (∀ A1 c1, ((A1, c1, rs[j].2.2) : Option Addr × Nat × List C.Gl).2.2 = V.rowAt gl t e k j) := Lib.hid (fun _ _ => by rw [V.rowAt_out (by omega), ← HG.out]; exact (C.gl_get rs hlt).symm)
          have hcl := Lib.hid (CL.out rs[j] (List.getElem_mem hlt) wr hbe)
          clear hc hbe
          generalize rs[j] = r at *
          go_wp2_with fail
          refine hcl.out.mono ?_
          rintro e' w1 ⟨A1, c1', rfl, hrw, hb1⟩
          have hown := (own_under hri.out.own hb1).alloc (.cells #[.slice A1 r.2.2.length c1'] 27)
          have hsz := hb1.size
          clear hcl
          go_wp2_with (at_builtin; refine wpList_append_any _ rfl (.tmp 51) (.tmp 54) 22 rfl w.heap.size 27 i0 _ 1 24 Try.underlying22 hi hz0 hz1 hz2 rfl (by decide) u10 _ _ rfl hown _ _ 1 1 [.slice A1 r.2.2.length c1'] rfl (reads_new _ [.slice A1 r.2.2.length c1'] 27) (by simp [Value.oneCell']) (by simp only [maxLen]; omega) (by omega) (by simp; omega) ?_; intro v' W2 hown' hgrow hnew)
          have hri2 := Lib.hid (hri.out.push (r0 := (A1, c1', r.2.2)) hb1 hrw hown' hgrow)
          have hrs2 := Lib.hid (C.rows_step (r0 := (A1, c1', r.2.2)) hrs.out (h0.out A1 c1'))
          clear hown hown' hgrow hnew hb1 hrw h0 hri hrs hsz
          go_wp2
          go_roundw
          case rel => exact ⟨j + 1, _, by go_num, hlt, hrs2, hri2⟩
          case measure => simp [intOf] <;> omega
      · obtain rfl : j = rs.length := by omega
        obtain ⟨A', c', rfl, hrv⟩ := hri.out.fin (by simp only [maxLen]; omega)
        have HB := Lib.hid hri.out.bel
        have HV2 := Lib.hid hrv
        have HL2 : Hid (rs'.length = rs.length) := Lib.hid hri.out.len
        have HR : Hid (rs'.map (·.2.2) = V.rows gl t e k) := Lib.hid (by rw [hrs.out]; unfold V.rows; rw [HL.out])
        clear hrv
        go_wp2_with fail
        go_ret2
        exact ⟨HB.out, .inr ⟨HP.out, A', c', rs', rfl, HV2.out, HR.out⟩⟩
end Go.Proofs.Ythohninbelhddaa
