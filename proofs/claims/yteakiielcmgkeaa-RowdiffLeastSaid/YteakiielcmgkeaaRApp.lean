/-
  The walks of layer 17: the reference's Apply. By an AI agent.
-/
import Derived.Test.YteakiielcmgkeaaApp
import Derived.Test.YteakiielcmgkeaaRound
namespace Go.Proofs.Yteakiielcmgkeaa
set_option linter.unusedSimpArgs false
set_option linter.unusedVariables false
open Go.RowKit Go.Joins

theorem reads_block1 (w : World) (cs : List Value) (t : TypeId) (size : Nat) (hn : cs.length = 1 * size) : Reads (w.alloc (.cells cs.toArray t)) (w.alloc (.cells cs.toArray t)).heap.size size (some ⟨w.heap.size, 0, none⟩) 1 cs := reads_block w cs t size 1 hn
theorem own_nil_lit (w : World) (kind row col count to : Int) (sl : Value) : ((w.alloc (R.box kind row col count to sl)).alloc (.cells #[] 33)).ownsRow w.heap.size 33 3 (.slice (some ⟨w.heap.size + 1, 0, none⟩) 0 0) 0 [] := by
  have h := World.ownsRow_lit (base := w.heap.size) (e := 33) (size := 3) (w.alloc (R.box kind row col count to sl)) #[] 0 (by simp) (by decide) rfl
  simpa using h
theorem below_nil_lit (w : World) (kind row col count to : Int) (sl : Value) : Below w.heap.size w ((w.alloc (R.box kind row col count to sl)).alloc (.cells #[] 33)) := ((Below.refl _ _).alloc (Nat.le_refl _) _).alloc (by simp) _
section
variable (A Ag : Option Addr) (c cg B : Nat) (l gl : List R.G) (kind row col count to : Int) (w : World)
theorem refapply_kind (hk : kind ≠ 3) : Calls Try.prog 23 #[.slice A l.length c, .agg #[.int .i64 kind, .int .i64 row, .int .i64 col, .int .i64 count, .int .i64 to, .slice Ag gl.length cg]] w fun e w' => R.AOut ([], 9) w w' e := by
  have h1 : (kind != 3) = true := by simp [hk]
  have OW := Lib.hid (own_nil_lit w kind row col count to (.slice Ag gl.length cg))
  have B0 := Lib.hid (below_nil_lit w kind row col count to (.slice Ag gl.length cg))
  go_enter Try.func23, Try.ntmps23
  go_wp2_with fail
  go_ret2
  exact ⟨_, rfl, OW.out, B0.out⟩
theorem refapply_bad (hl : l.length ≤ 1000) (hc1 : -9223372036854775808 ≤ col) (hc2 : col ≤ 9223372036854775807) (hbad : col < 0 ∨ count < 0 ∨ 264 < col ∨ max 0 ((l.length : Int) - col) < count) : Calls Try.prog 23 #[.slice A l.length c, .agg #[.int .i64 3, .int .i64 row, .int .i64 col, .int .i64 count, .int .i64 to, .slice Ag gl.length cg]] w fun e w' => R.AOut ([], 2) w w' e := by
  have OW := Lib.hid (own_nil_lit w 3 row col count to (.slice Ag gl.length cg))
  have B0 := Lib.hid (below_nil_lit w 3 row col count to (.slice Ag gl.length cg))
  have HB := Lib.hid hbad
  clear hbad
  by_cases h1 : col < 0
  · clear HB
    go_enter Try.func23, Try.ntmps23
    go_wp2_with fail
    go_ret2
    exact ⟨_, rfl, OW.out, B0.out⟩
  · by_cases h2 : count < 0
    · clear HB
      go_enter Try.func23, Try.ntmps23
      go_wp2_with fail
      go_ret2
      exact ⟨_, rfl, OW.out, B0.out⟩
    · by_cases h3 : 264 < col
      · clear HB
        go_enter Try.func23, Try.ntmps23
        go_wp2_with fail
        go_ret2
        exact ⟨_, rfl, OW.out, B0.out⟩
      · have h4 : max 0 ((l.length : Int) - col) < count := by rcases HB.out with h | h | h | h <;> first | exact h | exact absurd h (by omega)
        clear HB
        by_cases h5 : col < l.length
        · have h6 : (l.length : Int) - col < count := by omega
          clear h4
          go_enter Try.func23, Try.ntmps23
          go_wp2_with fail
          go_ret2
          exact ⟨_, rfl, OW.out, B0.out⟩
        · have h6 : 0 < count := by omega
          clear h4
          go_enter Try.func23, Try.ntmps23
          go_wp2_with fail
          go_ret2
          exact ⟨_, rfl, OW.out, B0.out⟩
end
/-- What lies in front of the glyphs that come in. -/
def R.pad (l : List R.G) (i : Nat) : List R.G := l.take i ++ List.replicate (i - l.length) R.sp
theorem R.pad_in (l : List R.G) {i : Nat} (h : i < l.length) : R.gcs (R.pad l (i + 1)) = R.gcs (R.pad l i) ++ [.string l[i].t, .bool l[i].wd, .int .i64 l[i].st] := by
  unfold R.pad
  rw [show i + 1 - l.length = 0 by omega, show i - l.length = 0 by omega, List.take_succ_eq_append_getElem h]
  simp only [List.replicate_zero, List.append_nil, R.gcs_app]
  rfl
theorem R.pad_out (l : List R.G) {i : Nat} (h : l.length ≤ i) : R.gcs (R.pad l (i + 1)) = R.gcs (R.pad l i) ++ [.string ⟨#[32]⟩, .bool false, .int .i64 0] := by
  have e : R.pad l (i + 1) = R.pad l i ++ [R.sp] := by
    unfold R.pad
    rw [show i + 1 - l.length = (i - l.length) + 1 by omega, List.replicate_succ', List.take_of_length_le (by omega), List.take_of_length_le (by omega), List.append_assoc]
  rw [e, R.gcs_sp]
theorem R.pad_len (l : List R.G) (i : Nat) : (R.pad l i).length = i := by simp [R.pad]; omega
theorem R.rest_in (m l : List R.G) {j i : Nat} (hj : j ≤ i) (h : i < l.length) : R.gcs (m ++ (l.drop j).take (i + 1 - j)) = R.gcs (m ++ (l.drop j).take (i - j)) ++ [.string l[i].t, .bool l[i].wd, .int .i64 l[i].st] := by
  rw [show i + 1 - j = (i - j) + 1 by omega, List.take_succ_eq_append_getElem (by rw [List.length_drop]; omega), ← List.append_assoc, R.gcs_app]
  congr 1
  rw [List.getElem_drop]
  simp only [show j + (i - j) = i by omega]
  rfl
set_option maxRecDepth 100000 in
set_option maxHeartbeats 8000000 in
theorem refapply_good (A Ag : Option Addr) (c cg B : Nat) (l gl : List R.G) (row to : Int) (k d : Nat) (w : World) (hr : Reads w B 3 A l.length (R.gcs l)) (hg : Reads w B 3 Ag gl.length (R.gcs gl)) (hB : B ≤ w.heap.size) (hl : l.length ≤ 500) (hgl : gl.length ≤ 200) (hk : k ≤ 264) (hd : (d : Int) ≤ max 0 ((l.length : Int) - k)) :
    Calls Try.prog 23 #[.slice A l.length c, .agg #[.int .i64 3, .int .i64 row, .int .i64 k, .int .i64 d, .int .i64 to, .slice Ag gl.length cg]] w fun e w' => R.AOut (R.trimEnd R.bl (R.pad l k ++ gl ++ l.drop (k + d)), 0) w w' e := by
  obtain ⟨i0, hi0, hz0, hz1, hz2⟩ := info_parts infoG
  have OW0 := Lib.hid (own_lower (base' := w.heap.size) (own_nil_lit w 3 row k d to (.slice Ag gl.length cg)) (Nat.le_refl _))
  have B0 := Lib.hid (below_nil_lit w 3 row k d to (.slice Ag gl.length cg))
  have V0 : Hid (((w.alloc (R.box 3 row k d to (.slice Ag gl.length cg))).alloc (.cells #[] 33)).heap[w.heap.size]? = some (R.box 3 row k d to (.slice Ag gl.length cg))) := Lib.hid (heap_old2 _ _ (heap_alloc_new w _))
  have HR := Lib.hid hr
  have HG := Lib.hid hg
  have own1 : ((w.alloc (R.box 3 row k d to (.slice Ag gl.length cg))).alloc (.cells #[] 33)).ownsRow (w.heap.size + 1) 33 3 (.slice (some ⟨w.heap.size + 1, 0, none⟩) 0 0) 0 [] := by
    have h := World.ownsRow_lit (base := w.heap.size + 1) (e := 33) (size := 3) (w.alloc (R.box 3 row k d to (.slice Ag gl.length cg))) #[] 0 (by simp) (by decide) rfl
    simpa using h
  have OWN1 := Lib.hid own1
  have hs1 : w.heap.size + 1 ≤ ((w.alloc (R.box 3 row k d to (.slice Ag gl.length cg))).alloc (.cells #[] 33)).heap.size := by simp
  by_cases hkl : k < l.length
  case pos =>
    have hkd : (d : Int) ≤ (l.length : Int) - k := by omega
    clear hr hg own1 hd OW0
    go_enter Try.func23, Try.ntmps23
    go_wp2_with fail
    obtain ⟨N, hN⟩ : ∃ N, w.heap.size = N := ⟨_, rfl⟩
    have HN := Lib.hid hN
    obtain ⟨W0, hW0⟩ : ∃ W, (w.alloc (R.box 3 row k d to (.slice Ag gl.length cg))).alloc (.cells #[] 33) = W := ⟨_, rfl⟩
    rw [hW0] at B0 V0 OWN1 hs1
    unfold R.box at hW0
    rw [hW0]
    rw [hN] at B0 V0 OWN1 hs1 hB ⊢
    clear hW0 hN
    go_loopw [7, 8] (fun v i wr => ∃ n : Nat, n ≤ k ∧ i = .int .i64 n ∧ Hid (wr.ownsRow (N + 1) 33 3 v n (R.gcs (R.pad l n))) ∧ Hid (wr.heap[N]? = some (R.box 3 row k d to (.slice Ag gl.length cg))) ∧ Hid (Below N w wr) ∧ N + 1 ≤ wr.heap.size) (fun _ i _ => k - (intOf i).toNat)
    case atStart => exact ⟨0, Nat.zero_le _, rfl, Lib.hid (by simpa [R.pad, R.gcs] using OWN1.out), V0, B0, hs1⟩
    case round =>
      clear OWN1 V0 B0 hs1
      obtain ⟨n, hnk, rfl, hown, hv, hbl, hsz⟩ := hrel
      obtain ⟨vo, hvo⟩ : ∃ v, u7 = v := ⟨_, rfl⟩
      rw [hvo] at hown ⊢
      clear hvo
      have hc2 := cell_of_block_ (i := 2) hv.out
      have hc3 := cell_of_block_ (i := 3) hv.out
      have hc5 := cell_of_block_ (i := 5) hv.out
      simp at hc2 hc3 hc5
      have HNE : Hid (∀ g, vo.ownBlock = some g → N ≤ g ∧ N ≠ g) := Lib.hid (fun g e => by have := (hown.out.lt g e).1; omega)
      have hq1 : (0 : Int) ≤ (n : Int) := by omega
      by_cases hlt : n < k
      · by_cases hnl : n < l.length
        · obtain ⟨b, off, rfl, hbB, hcl⟩ := (HR.out.below hbl.out hB).gl (by omega)
          obtain ⟨g0, g1, g2⟩ := hcl n hnl
          have HS := Lib.hid (R.pad_in l hnl)
          have hq2 : (n : Int) < (l.length : Int) := by omega
          clear hcl
          generalize l[n] = g at *
          obtain ⟨gt, gw, gs⟩ := g
          simp only at g0 g1 g2 HS
          go_wp2_with (at_builtin; refine wpList_append_any _ rfl (.tmp 54) (.tmp 59) 22 rfl (N + 1) 33 i0 _ 3 32 Try.underlying22 hi0 hz0 hz1 hz2 rfl (by decide) vo n _ rfl (hown.out.alloc _) _ (some ⟨wr.heap.size, 0, none⟩) 1 1 [.string gt, .bool gw, .int .i64 gs] rfl (reads_block1 wr [.string gt, .bool gw, .int .i64 gs] 33 3 rfl) (by simp [Value.oneCell']) (by simp only [maxLen]; omega) (by omega) (Nat.le_trans hsz (by simp)) ?_; intro v3 W3 hown3 hg3 hn3)
          refine ⟨⟨n + 1, hlt, by go_num, Lib.hid (by rw [HS.out]; exact hown3), Lib.hid ?_, Lib.hid ((hbl.out.alloc (Nat.le_of_succ_le hsz) _).grown hg3 (Nat.le_trans (Nat.le_of_succ_le hsz) (by simp)) (fun b e => (HNE.out b e).1)), Nat.le_trans hsz (Nat.le_trans (by simp) hg3.size)⟩, by simp [intOf]; omega⟩
          rw [hg3.block N (by simp; omega) (fun e => (HNE.out N e.symm).2 rfl)]
          exact heap_old2 wr _ hv.out
        · exact absurd (Nat.lt_trans hlt hkl) hnl
      · obtain rfl : n = k := by omega
        have q2 : decide (n < n) = false := decide_eq_false (by omega)
        have HGr := Lib.hid (HG.out.below hbl.out hB)
        have HG1 := Lib.hid (R.gcs_one gl)
        have q3 : (n : Int) + (d : Int) ≤ 100000 := by omega
        clear HG
        go_wp2_with (at_builtin; refine wpList_append_any _ rfl (.tmp 65) (.tmp 67) 22 rfl (N + 1) 33 i0 _ 3 32 Try.underlying22 hi0 hz0 hz1 hz2 rfl (by decide) vo n _ rfl hown.out _ Ag gl.length cg (R.gcs gl) rfl HGr.out HG1.out (by simp only [maxLen]; omega) (by omega) hsz ?_; intro v4 W4 hown4 hg4 hn4; (have V4 := (hg4.block N (by omega) (fun e => (HNE.out N e.symm).2 rfl)).trans hv.out); (have B4 := Lib.hid (hbl.out.grown hg4 (Nat.le_of_succ_le hsz) (fun b e => (HNE.out b e).1))); (have hs4 : N + 1 ≤ W4.heap.size := Nat.le_trans hsz hg4.size); (have k2 := cell_of_block_ (i := 2) V4); (have k3 := cell_of_block_ (i := 3) V4); (simp at k2 k3); (have OWN4 := Lib.hid hown4); (clear hown4 hg4 hn4 V4 hown hv hbl hc2 hc3 hc5 HGr HNE HG1 hsz))
        go_loopw [7, 9] (fun v i wr => ∃ m M : Nat, n + d ≤ m ∧ (m ≤ l.length ∨ m ≤ n + d) ∧ M + (n + d) ≤ n + gl.length + m ∧ i = .int .i64 m ∧ Hid (wr.ownsRow (N + 1) 33 3 v M (R.gcs (R.pad l n ++ gl ++ (l.drop (n + d)).take (m - (n + d))))) ∧ Hid (Below N w wr) ∧ N + 1 ≤ wr.heap.size) (fun _ i _ => l.length - (intOf i).toNat)
        case atStart => exact ⟨n + d, n + gl.length, Nat.le_refl _, .inr (Nat.le_refl _), by omega, by go_num, Lib.hid (by rw [Nat.sub_self, List.take_zero, List.append_nil, R.gcs_app]; exact OWN4.out), B4, hs4⟩
        case round =>
          clear OWN4 B4 hs4 k2 k3
          obtain ⟨m, M, hm1, hm2, hM, rfl, hown, hbl, hsz⟩ := hrel
          obtain ⟨vo, hvo⟩ : ∃ v, u7 = v := ⟨_, rfl⟩
          rw [hvo] at hown ⊢
          clear hvo
          have HNE : Hid (∀ g, vo.ownBlock = some g → N ≤ g) := Lib.hid (fun g e => by have := (hown.out.lt g e).1; omega)
          have hp1 : (0 : Int) ≤ (m : Int) := by omega
          by_cases hml : m < l.length
          · obtain ⟨b, off, rfl, hbB, hcl⟩ := (HR.out.below hbl.out hB).gl (by omega)
            obtain ⟨g0, g1, g2⟩ := hcl m hml
            have HS := Lib.hid (R.rest_in (R.pad l n ++ gl) l hm1 hml)
            have hp2 : (m : Int) < (l.length : Int) := by omega
            clear hcl
            generalize l[m] = g at *
            obtain ⟨gt, gw, gs⟩ := g
            simp only at g0 g1 g2 HS
            go_wp2_with (at_builtin; refine wpList_append_any _ rfl (.tmp 80) (.tmp 85) 22 rfl (N + 1) 33 i0 _ 3 32 Try.underlying22 hi0 hz0 hz1 hz2 rfl (by decide) vo M _ rfl (hown.out.alloc _) _ (some ⟨wr.heap.size, 0, none⟩) 1 1 [.string gt, .bool gw, .int .i64 gs] rfl (reads_block1 wr [.string gt, .bool gw, .int .i64 gs] 33 3 rfl) (by simp [Value.oneCell']) (by simp only [maxLen]; omega) (by omega) (Nat.le_trans hsz (by simp)) ?_; intro v3 W3 hown3 hg3 hn3)
            refine ⟨⟨m + 1, M + 1, by omega, by omega, by omega, by go_num, Lib.hid (by rw [HS.out]; exact hown3), Lib.hid ((hbl.out.alloc (Nat.le_of_succ_le hsz) _).grown hg3 (Nat.le_trans (Nat.le_of_succ_le hsz) (by simp)) (fun b e => HNE.out b e)), Nat.le_trans hsz (Nat.le_trans (by simp) hg3.size)⟩, by simp [intOf]; omega⟩
          · have q4 : decide (m < l.length) = false := decide_eq_false hml
            have hfull : (l.drop (n + d)).take (m - (n + d)) = l.drop (n + d) := List.take_of_length_le (by rw [List.length_drop]; omega)
            rw [hfull] at hown
            obtain ⟨X, hX⟩ : ∃ X, X = R.pad l n ++ gl ++ l.drop (n + d) := ⟨_, rfl⟩
            rw [← hX] at hown
            have HX := Lib.hid hX
            have hXM : X.length = M := by have := hown.out.1; rw [R.gcs_len] at this; omega
            subst hXM
            obtain ⟨A6, c6, rfl, r6, hc6⟩ := own_reads_cap hown.out
            have TR := Lib.hid (reftrim_any A6 c6 wr.heap.size X wr r6 (Nat.le_refl _) (by omega) hc6)
            clear hfull hX r6 hown
            go_wp2_with fail
            refine TR.out.mono ?_
            rintro e w6 ⟨v6, rfl, h1, h2⟩
            have hn5 : w.heap.size ≤ wr.heap.size := by rw [HN.out]; exact Nat.le_of_succ_le hsz
            have OW6 := Lib.hid (own_lower h1 hn5)
            have B6 : Hid (Below w.heap.size w w6) := Lib.hid ((HN.out ▸ hbl.out : Below w.heap.size w wr).trans (h2.mono hn5))
            clear TR h1 h2 hn5
            go_wp2_with fail
            go_ret2
            have hX := HX.out
            subst hX
            exact ⟨_, rfl, OW6.out, B6.out⟩
  case neg =>
    have hkd : (d : Int) ≤ 0 := by omega
    have hkb : decide (0 < d) = false := decide_eq_false (by omega)
    have hkb2 : decide ((0 : Int) < (d : Int)) = false := decide_eq_false (by omega)
    clear hr hg own1 hd OW0
    go_enter Try.func23, Try.ntmps23
    go_wp2_with fail
    obtain ⟨N, hN⟩ : ∃ N, w.heap.size = N := ⟨_, rfl⟩
    have HN := Lib.hid hN
    obtain ⟨W0, hW0⟩ : ∃ W, (w.alloc (R.box 3 row k d to (.slice Ag gl.length cg))).alloc (.cells #[] 33) = W := ⟨_, rfl⟩
    rw [hW0] at B0 V0 OWN1 hs1
    unfold R.box at hW0
    rw [hW0]
    rw [hN] at B0 V0 OWN1 hs1 hB ⊢
    clear hW0 hN
    go_loopw [7, 8] (fun v i wr => ∃ n : Nat, n ≤ k ∧ i = .int .i64 n ∧ Hid (wr.ownsRow (N + 1) 33 3 v n (R.gcs (R.pad l n))) ∧ Hid (wr.heap[N]? = some (R.box 3 row k d to (.slice Ag gl.length cg))) ∧ Hid (Below N w wr) ∧ N + 1 ≤ wr.heap.size) (fun _ i _ => k - (intOf i).toNat)
    case atStart => exact ⟨0, Nat.zero_le _, rfl, Lib.hid (by simpa [R.pad, R.gcs] using OWN1.out), V0, B0, hs1⟩
    case round =>
      clear OWN1 V0 B0 hs1
      obtain ⟨n, hnk, rfl, hown, hv, hbl, hsz⟩ := hrel
      obtain ⟨vo, hvo⟩ : ∃ v, u7 = v := ⟨_, rfl⟩
      rw [hvo] at hown ⊢
      clear hvo
      have hc2 := cell_of_block_ (i := 2) hv.out
      have hc3 := cell_of_block_ (i := 3) hv.out
      have hc5 := cell_of_block_ (i := 5) hv.out
      simp at hc2 hc3 hc5
      have HNE : Hid (∀ g, vo.ownBlock = some g → N ≤ g ∧ N ≠ g) := Lib.hid (fun g e => by have := (hown.out.lt g e).1; omega)
      have hq1 : (0 : Int) ≤ (n : Int) := by omega
      by_cases hlt : n < k
      · by_cases hnl : n < l.length
        · obtain ⟨b, off, rfl, hbB, hcl⟩ := (HR.out.below hbl.out hB).gl (by omega)
          obtain ⟨g0, g1, g2⟩ := hcl n hnl
          have HS := Lib.hid (R.pad_in l hnl)
          have hq2 : (n : Int) < (l.length : Int) := by omega
          clear hcl
          generalize l[n] = g at *
          obtain ⟨gt, gw, gs⟩ := g
          simp only at g0 g1 g2 HS
          go_wp2_with (at_builtin; refine wpList_append_any _ rfl (.tmp 54) (.tmp 59) 22 rfl (N + 1) 33 i0 _ 3 32 Try.underlying22 hi0 hz0 hz1 hz2 rfl (by decide) vo n _ rfl (hown.out.alloc _) _ (some ⟨wr.heap.size, 0, none⟩) 1 1 [.string gt, .bool gw, .int .i64 gs] rfl (reads_block1 wr [.string gt, .bool gw, .int .i64 gs] 33 3 rfl) (by simp [Value.oneCell']) (by simp only [maxLen]; omega) (by omega) (Nat.le_trans hsz (by simp)) ?_; intro v3 W3 hown3 hg3 hn3)
          refine ⟨⟨n + 1, hlt, by go_num, Lib.hid (by rw [HS.out]; exact hown3), Lib.hid ?_, Lib.hid ((hbl.out.alloc (Nat.le_of_succ_le hsz) _).grown hg3 (Nat.le_trans (Nat.le_of_succ_le hsz) (by simp)) (fun b e => (HNE.out b e).1)), Nat.le_trans hsz (Nat.le_trans (by simp) hg3.size)⟩, by simp [intOf]; omega⟩
          rw [hg3.block N (by simp; omega) (fun e => (HNE.out N e.symm).2 rfl)]
          exact heap_old2 wr _ hv.out
        · have HS := Lib.hid (R.pad_out l (i := n) (by omega))
          go_wp2_with (at_builtin; refine wpList_append_any _ rfl (.tmp 61) (.tmp 63) 22 rfl (N + 1) 33 i0 _ 3 32 Try.underlying22 hi0 hz0 hz1 hz2 rfl (by decide) vo n _ rfl (hown.out.alloc _) _ (some ⟨wr.heap.size, 0, none⟩) 1 1 [.string ⟨#[32]⟩, .bool false, .int .i64 0] rfl (reads_block1 wr [.string ⟨#[32]⟩, .bool false, .int .i64 0] 33 3 rfl) (by simp [Value.oneCell']) (by simp only [maxLen]; omega) (by omega) (Nat.le_trans hsz (by simp)) ?_; intro v3 W3 hown3 hg3 hn3)
          refine ⟨⟨n + 1, hlt, by go_num, Lib.hid (by rw [HS.out]; exact hown3), Lib.hid ?_, Lib.hid ((hbl.out.alloc (Nat.le_of_succ_le hsz) _).grown hg3 (Nat.le_trans (Nat.le_of_succ_le hsz) (by simp)) (fun b e => (HNE.out b e).1)), Nat.le_trans hsz (Nat.le_trans (by simp) hg3.size)⟩, by simp [intOf]; omega⟩
          rw [hg3.block N (by simp; omega) (fun e => (HNE.out N e.symm).2 rfl)]
          exact heap_old2 wr _ hv.out
      · obtain rfl : n = k := by omega
        have q2 : decide (n < n) = false := decide_eq_false (by omega)
        have HGr := Lib.hid (HG.out.below hbl.out hB)
        have HG1 := Lib.hid (R.gcs_one gl)
        have q3 : (n : Int) + (d : Int) ≤ 100000 := by omega
        clear HG
        go_wp2_with (at_builtin; refine wpList_append_any _ rfl (.tmp 65) (.tmp 67) 22 rfl (N + 1) 33 i0 _ 3 32 Try.underlying22 hi0 hz0 hz1 hz2 rfl (by decide) vo n _ rfl hown.out _ Ag gl.length cg (R.gcs gl) rfl HGr.out HG1.out (by simp only [maxLen]; omega) (by omega) hsz ?_; intro v4 W4 hown4 hg4 hn4; (have V4 := (hg4.block N (by omega) (fun e => (HNE.out N e.symm).2 rfl)).trans hv.out); (have B4 := Lib.hid (hbl.out.grown hg4 (Nat.le_of_succ_le hsz) (fun b e => (HNE.out b e).1))); (have hs4 : N + 1 ≤ W4.heap.size := Nat.le_trans hsz hg4.size); (have k2 := cell_of_block_ (i := 2) V4); (have k3 := cell_of_block_ (i := 3) V4); (simp at k2 k3); (have OWN4 := Lib.hid hown4); (clear hown4 hg4 hn4 V4 hown hv hbl hc2 hc3 hc5 HGr HNE HG1 hsz))
        go_loopw [7, 9] (fun v i wr => ∃ m M : Nat, n + d ≤ m ∧ (m ≤ l.length ∨ m ≤ n + d) ∧ M + (n + d) ≤ n + gl.length + m ∧ i = .int .i64 m ∧ Hid (wr.ownsRow (N + 1) 33 3 v M (R.gcs (R.pad l n ++ gl ++ (l.drop (n + d)).take (m - (n + d))))) ∧ Hid (Below N w wr) ∧ N + 1 ≤ wr.heap.size) (fun _ i _ => l.length - (intOf i).toNat)
        case atStart => exact ⟨n + d, n + gl.length, Nat.le_refl _, .inr (Nat.le_refl _), by omega, by go_num, Lib.hid (by rw [Nat.sub_self, List.take_zero, List.append_nil, R.gcs_app]; exact OWN4.out), B4, hs4⟩
        case round =>
          clear OWN4 B4 hs4 k2 k3
          obtain ⟨m, M, hm1, hm2, hM, rfl, hown, hbl, hsz⟩ := hrel
          obtain ⟨vo, hvo⟩ : ∃ v, u7 = v := ⟨_, rfl⟩
          rw [hvo] at hown ⊢
          clear hvo
          have HNE : Hid (∀ g, vo.ownBlock = some g → N ≤ g) := Lib.hid (fun g e => by have := (hown.out.lt g e).1; omega)
          have hp1 : (0 : Int) ≤ (m : Int) := by omega
          by_cases hml : m < l.length
          · exact absurd hml (by omega)
          · have q4 : decide (m < l.length) = false := decide_eq_false hml
            have hfull : (l.drop (n + d)).take (m - (n + d)) = l.drop (n + d) := List.take_of_length_le (by rw [List.length_drop]; omega)
            rw [hfull] at hown
            obtain ⟨X, hX⟩ : ∃ X, X = R.pad l n ++ gl ++ l.drop (n + d) := ⟨_, rfl⟩
            rw [← hX] at hown
            have HX := Lib.hid hX
            have hXM : X.length = M := by have := hown.out.1; rw [R.gcs_len] at this; omega
            subst hXM
            obtain ⟨A6, c6, rfl, r6, hc6⟩ := own_reads_cap hown.out
            have TR := Lib.hid (reftrim_any A6 c6 wr.heap.size X wr r6 (Nat.le_refl _) (by omega) hc6)
            clear hfull hX r6 hown
            go_wp2_with fail
            refine TR.out.mono ?_
            rintro e w6 ⟨v6, rfl, h1, h2⟩
            have hn5 : w.heap.size ≤ wr.heap.size := by rw [HN.out]; exact Nat.le_of_succ_le hsz
            have OW6 := Lib.hid (own_lower h1 hn5)
            have B6 : Hid (Below w.heap.size w w6) := Lib.hid ((HN.out ▸ hbl.out : Below w.heap.size w wr).trans (h2.mono hn5))
            clear TR h1 h2 hn5
            go_wp2_with fail
            go_ret2
            have hX := HX.out
            subst hX
            exact ⟨_, rfl, OW6.out, B6.out⟩
end Go.Proofs.Yteakiielcmgkeaa
